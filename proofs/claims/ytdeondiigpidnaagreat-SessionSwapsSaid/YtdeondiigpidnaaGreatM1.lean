/- Part 1 of what the proof leans on: texts of my own, joined. It proves no statement by itself. -/
import Derived.Calls
import Derived.Orders
import Derived.Laws.Sem
import Derived.Laws.World
import Derived.Laws.CopyRow
import Derived.Laws.Cells
import Derived.Laws.Entries
import Derived.Laws.StructEq

section
set_option linter.unusedVariables false
set_option linter.unusedSimpArgs false
/- Abstract values and stores, and what they stand for in a world of the model. -/
namespace Go.Proofs.YtdeondiigpidnaaGreat.Ab
open Go
set_option linter.unusedSectionVars false

/-- what append may do with a slice: nothing is known; it must make new memory; it may grow it in place, by a mark that lives in the store -/
inductive Cap where
  | any
  | full
  | tip (t : Nat)

/-- abstract values -/
inductive V where
  | bool (b : Bool)
  | int (k : IntKind) (n : Int)
  | str (s : ByteArray)
  | nilp
  | ptr (id off : Nat)
  | sl (l : List V) (c : Cap)
  | vw (id sz off len : Nat)
  | map (id : Nat)
  | nilmap
  | fn (f : Fn) (first captured : List V)
  | nilfn
  | iface (t : TypeId) (v : V)
  | nilif
  | agg (l : List V)
  | tup (l : List V)
  deriving Inhabited

/-- the cells of a value -/
def V.cells : V → List V
  | .agg l => l
  | v => [v]

def V.one : V → Bool
  | .agg _ | .tup _ => false
  | _ => true

/-- objects of a store -/
inductive Obj where
  | cells (cs : List V)
  | arr (sz : Nat) (l : List V)
  | map (l : List (V × V))
  | mapr (l : List (V × V))
  | tip (sz : Nat)
  | iter (m : Nat) (cur : Option (V × V)) (left : List (V × V))

abbrev Store := Nat → Option Obj
def Store.upd (s : Store) (i : Nat) (o : Obj) : Store := fun j => if j = i then some o else s j
def Store.del (s : Store) (i : Nat) : Store := fun j => if j = i then none else s j

structure Ctx where
  g : Nat → Option (Nat × Nat)
  s : Store
  N : Nat → Prop
  w : World

/-- a cell that nobody writes any more -/
def Ctx.imm (c : Ctx) (b i : Nat) : Prop :=
  ¬ c.N b ∧ ∀ id o e, c.s id = some o → c.g id = some (b, e) → (∃ sz, o = .tip sz) ∧ i < e

def placed (c : Ctx) (b off : Nat) (cs : List Value) : Prop :=
  ∀ i v, cs[i]? = some v → c.w.cell? ⟨b, off + i, none⟩ = some v ∧ c.imm b (off + i)

def flat (vs : List Value) : List Value := vs.flatMap fun v => v.cells.toList

structure SlRep (c : Ctx) (vs : List Value) (k : Cap) (a : Option Addr) (n cap : Nat) : Prop where
  len : n = vs.length
  le : n ≤ cap
  full : k = .full → cap = n
  row : vs = [] ∨ ∃ b off, a = some ⟨b, off, none⟩ ∧ placed c b off (flat vs)
  size : ∃ sz, ∀ v ∈ vs, v.cells.size = sz
  known : ∀ t, k = .tip t → (c.g t).isSome
  tip : ∀ t, k = .tip t → ∀ sz, c.s t = some (.tip sz) →
    ∃ b e off cs, c.g t = some (b, e) ∧ a = some ⟨b, off, none⟩ ∧ e = off + n * sz ∧ c.w.shape? b = some cs ∧ off + cap * sz ≤ cs.2 ∧ ∀ v ∈ vs, v.cells.size = sz

mutual
def rep (c : Ctx) : V → Value → Prop
  | .bool b, v => v = .bool b
  | .int k n, v => v = .int k n
  | .str s, v => v = .string s
  | .nilp, v => v = .pointer none
  | .ptr id off, v => ∃ b e, c.g id = some (b, e) ∧ v = .pointer (some ⟨b, e + off, none⟩)
  | .sl l k, v => ∃ vs a n cap, repL c l vs ∧ v = .slice a n cap ∧ SlRep c vs k a n cap
  | .vw id sz off len, v => (len = 0 ∧ ∃ a, v = .slice a 0 0) ∨ ∃ b e cap sh, c.g id = some (b, e) ∧ v = .slice (some ⟨b, e + off * sz, none⟩) len cap ∧ 0 < sz ∧ len ≤ cap ∧ c.w.shape? b = some sh ∧ e + off * sz + cap * sz ≤ sh.2
  | .map id, v => ∃ b e, c.g id = some (b, e) ∧ v = .map (some b)
  | .nilmap, v => v = .map none
  | .fn f fs cs, v => ∃ a b, repL c fs a ∧ repL c cs b ∧ v = .func f a.toArray b.toArray
  | .nilfn, v => v = .nilFunc
  | .iface t x, v => ∃ y, rep c x y ∧ v = .iface t y
  | .nilif, v => v = .nilIface
  | .agg l, v => ∃ vs, repL c l vs ∧ v = .agg vs.toArray
  | .tup l, v => ∃ vs, repL c l vs ∧ v = .tuple vs.toArray
def repL (c : Ctx) : List V → List Value → Prop
  | [], vs => vs = []
  | x :: r, vs => ∃ y ys, vs = y :: ys ∧ rep c x y ∧ repL c r ys
end

/-- one context goes on as another one: what stands for a value goes on standing for it -/
structure Ext (c c' : Ctx) : Prop where
  g : ∀ id x, c.g id = some x → c'.g id = some x
  sz : c.w.heap.size ≤ c'.w.heap.size
  imm : ∀ b i, b < c.w.heap.size → c.imm b i → c'.imm b i ∧ c'.w.cell? ⟨b, i, none⟩ = c.w.cell? ⟨b, i, none⟩
  shape : ∀ b, b < c.w.heap.size → c'.w.shape? b = c.w.shape? b
  tip : ∀ t sz, (c.g t).isSome → c'.s t = some (.tip sz) → c.s t = some (.tip sz)

theorem Ext.refl (c : Ctx) : Ext c c := ⟨fun _ _ h => h, Nat.le_refl _, fun _ _ _ h => ⟨h, rfl⟩, fun _ _ => rfl, fun _ _ _ h => h⟩

theorem cell_lt {w : World} {b i : Nat} {v : Value} (h : w.cell? ⟨b, i, none⟩ = some v) : b < w.heap.size := by
  unfold World.cell? at h
  rcases Nat.lt_or_ge b w.heap.size with h1 | h1
  · exact h1
  · simp [Array.getElem?_eq_none h1] at h

theorem shape_lt {w : World} {b : Nat} {x : TypeId × Nat} (h : w.shape? b = some x) : b < w.heap.size := by
  unfold World.shape? at h
  rcases Nat.lt_or_ge b w.heap.size with h1 | h1
  · exact h1
  · simp [Array.getElem?_eq_none h1] at h

theorem placed.ext {c c' : Ctx} (h : Ext c c') {b off : Nat} {cs : List Value} (hp : placed c b off cs) : placed c' b off cs := by
  intro i v hi
  obtain ⟨h1, h2⟩ := hp i v hi
  obtain ⟨h3, h4⟩ := h.imm b (off + i) (cell_lt h1) h2
  exact ⟨h4.trans h1, h3⟩

theorem SlRep.ext {c c' : Ctx} (h : Ext c c') {vs : List Value} {k : Cap} {a : Option Addr} {n cap : Nat} (hs : SlRep c vs k a n cap) : SlRep c' vs k a n cap where
  len := hs.len
  le := hs.le
  full := hs.full
  row := hs.row.imp id fun ⟨b, off, h1, h2⟩ => ⟨b, off, h1, h2.ext h⟩
  size := hs.size
  known := fun t ht => by
    have := hs.known t ht
    cases hg : c.g t with
    | none => simp [hg] at this
    | some x => simp [h.g t x hg]
  tip := fun t ht sz hsz => by
    obtain ⟨b, e, off, cs, h1, h2, h3, h4, h5, h6⟩ := hs.tip t ht sz (h.tip t sz (hs.known t ht) hsz)
    exact ⟨b, e, off, cs, h.g _ _ h1, h2, h3, (h.shape b (shape_lt h4)).trans h4, h5, h6⟩

mutual
theorem rep_ext {c c' : Ctx} (h : Ext c c') : ∀ (x : V) (v : Value), rep c x v → rep c' x v
  | .bool b, v, hr => by simpa [rep] using hr
  | .int k n, v, hr => by simpa [rep] using hr
  | .str s, v, hr => by simpa [rep] using hr
  | .nilp, v, hr => by simpa [rep] using hr
  | .ptr id off, v, hr => by
    simp only [rep] at hr ⊢
    obtain ⟨b, e, h1, h2⟩ := hr
    exact ⟨b, e, h.g _ _ h1, h2⟩
  | .sl l k, v, hr => by
    simp only [rep] at hr ⊢
    obtain ⟨vs, a, n, cap, h1, h2, h3⟩ := hr
    exact ⟨vs, a, n, cap, repL_ext h l vs h1, h2, h3.ext h⟩
  | .vw id sz off len, v, hr => by
    simp only [rep] at hr ⊢
    rcases hr with hr | ⟨b, e, cap, sh, h1, h2, h0, h3, h4, h5⟩
    · exact .inl hr
    · exact .inr ⟨b, e, cap, sh, h.g _ _ h1, h2, h0, h3, (h.shape b (shape_lt h4)).trans h4, h5⟩
  | .map id, v, hr => by
    simp only [rep] at hr ⊢
    obtain ⟨b, e, h1, h2⟩ := hr
    exact ⟨b, e, h.g _ _ h1, h2⟩
  | .nilmap, v, hr => by simpa [rep] using hr
  | .fn f fs cs, v, hr => by
    simp only [rep] at hr ⊢
    obtain ⟨a, b, h1, h2, h3⟩ := hr
    exact ⟨a, b, repL_ext h fs a h1, repL_ext h cs b h2, h3⟩
  | .nilfn, v, hr => by simpa [rep] using hr
  | .iface t x, v, hr => by
    simp only [rep] at hr ⊢
    obtain ⟨y, h1, h2⟩ := hr
    exact ⟨y, rep_ext h x y h1, h2⟩
  | .nilif, v, hr => by simpa [rep] using hr
  | .agg l, v, hr => by
    simp only [rep] at hr ⊢
    obtain ⟨vs, h1, h2⟩ := hr
    exact ⟨vs, repL_ext h l vs h1, h2⟩
  | .tup l, v, hr => by
    simp only [rep] at hr ⊢
    obtain ⟨vs, h1, h2⟩ := hr
    exact ⟨vs, repL_ext h l vs h1, h2⟩
theorem repL_ext {c c' : Ctx} (h : Ext c c') : ∀ (l : List V) (vs : List Value), repL c l vs → repL c' l vs
  | [], vs, hr => by simpa [repL] using hr
  | x :: r, vs, hr => by
    simp only [repL] at hr ⊢
    obtain ⟨y, ys, h1, h2, h3⟩ := hr
    exact ⟨y, ys, h1, rep_ext h x y h2, repL_ext h r ys h3⟩
end

theorem Ext.trans {a b c : Ctx} (h : Ext a b) (h' : Ext b c) : Ext a c where
  g := fun id x hx => h'.g _ _ (h.g _ _ hx)
  sz := Nat.le_trans h.sz h'.sz
  imm := fun i j hi hm => by
    obtain ⟨h1, h2⟩ := h.imm i j hi hm
    obtain ⟨h3, h4⟩ := h'.imm i j (Nat.lt_of_lt_of_le hi h.sz) h1
    exact ⟨h3, h4.trans h2⟩
  shape := fun i hi => (h'.shape i (Nat.lt_of_lt_of_le hi h.sz)).trans (h.shape i hi)
  tip := fun t sz ht hs => by
    refine h.tip t sz ht (h'.tip t sz ?_ hs)
    cases hg : a.g t with
    | none => simp [hg] at ht
    | some x => simp [h.g t x hg]


/-- the entries of a map -/
def repM (c : Ctx) : List (V × V) → List MapEntry → Prop
  | [], es => es = []
  | x :: r, es => ∃ y ys, es = y :: ys ∧ rep c x.1 y.key ∧ rep c x.2 y.val ∧ repM c r ys

theorem repM_ext {c c' : Ctx} (h : Ext c c') : ∀ (l : List (V × V)) (es : List MapEntry), repM c l es → repM c' l es
  | [], es, hr => by simpa [repM] using hr
  | x :: r, es, hr => by
    simp only [repM] at hr ⊢
    obtain ⟨y, ys, h1, h2, h3, h4⟩ := hr
    exact ⟨y, ys, h1, rep_ext h _ _ h2, rep_ext h _ _ h3, repM_ext h r ys h4⟩

def mapRep (c : Ctx) (b e : Nat) (l : List (V × V)) : Prop :=
  e = 0 ∧ ∃ es clock, c.w.heap[b]? = some (.map es clock) ∧ repM c l es.toList ∧ (es.toList.map (·.born)).Nodup ∧ ∀ x ∈ es.toList, x.born < clock

/-- what an object is in memory, at its block and its first cell -/
def objRep (c : Ctx) (b e : Nat) : Obj → Prop
  | .cells cs => e = 0 ∧ ∃ vs T, repL c cs vs ∧ c.w.heap[b]? = some (.cells vs.toArray T (0, 0))
  | .arr sz l => ∃ vs k T, repL c l vs ∧ (∀ v ∈ vs, v.cells.size = sz) ∧ c.w.heap[b]? = some (.cells k T (0, 0)) ∧
      ∀ i v, (flat vs)[i]? = some v → k[e + i]? = some v
  | .map l => mapRep c b e l
  | .mapr l => mapRep c b e l
  | .tip _ => ∃ k T, c.w.heap[b]? = some (.cells k T (0, 0)) ∧ e ≤ k.size
  | .iter m cur left => e = 0 ∧ (∀ l, c.s m ≠ some (.map l)) ∧ ∃ bm since seen, c.g m = some (bm, 0) ∧ c.w.heap[b]? = some (.mapIter (some bm) since seen since) ∧
      ∀ l, c.s m = some (.mapr l) → ∃ es, c.w.heap[bm]? = some (.map es since) ∧ repM c left (es.toList.filter fun x => !seen.contains x.born) ∧
        ∀ x, cur = some x → ∃ y ∈ es.toList, seen.back? = some y.born ∧ rep c x.1 y.key ∧ rep c x.2 y.val

structure R (c : Ctx) : Prop where
  obj : ∀ id o, c.s id = some o → ∃ b e, c.g id = some (b, e) ∧ ¬ c.N b ∧ objRep c b e o
  sep : ∀ id id' o o' b e e', c.s id = some o → c.s id' = some o' → c.g id = some (b, e) → c.g id' = some (b, e') → id = id'
  nb : ∀ b, c.N b → b < c.w.heap.size
  gb : ∀ id b e, c.g id = some (b, e) → b < c.w.heap.size
  fin : ∃ k, ∀ id, k ≤ id → c.g id = none

/-- is it told that draws go forward? -/
class Fwd where
  on : Bool

variable [Fwd]

/-- what no code changes, and what goes up alone -/
structure Onw (w w' : World) : Prop where
  output : w'.output = w.output
  tape : w'.tape = w.tape
  drawn : Fwd.on = true → w.drawn ≤ w'.drawn
theorem Onw.refl (w : World) : Onw w w := ⟨rfl, rfl, fun _ => Nat.le_refl _⟩
theorem Onw.trans {a b c : World} (h : Onw a b) (h' : Onw b c) : Onw a c := ⟨h'.output.trans h.output, h'.tape.trans h.tape, fun hf => Nat.le_trans (h.drawn hf) (h'.drawn hf)⟩

/-- what a call may do to what was there -/
structure Evo (c c' : Ctx) : Prop where
  ext : Ext c c'
  free : ∀ b, b < c.w.heap.size → (∀ id o e, c.s id = some o → c.g id ≠ some (b, e)) → c'.w.heap[b]? = c.w.heap[b]?
  os : c'.w.os = c.w.os
  output : Onw c.w c'.w

theorem Evo.refl (c : Ctx) : Evo c c := ⟨.refl c, fun _ _ _ => rfl, rfl, .refl _⟩

/-- blocks that are in nobody's store stay in nobody's store -/
theorem Evo.trans {a b c : Ctx} (hb : R b) (h : Evo a b) (h' : Evo b c) (ha : ∀ i, a.N i → b.N i) : Evo a c where
  ext := h.ext.trans h'.ext
  free := fun i hi hf => by
    have h1 := h.free i hi hf
    rw [← h1]
    refine h'.free i (Nat.lt_of_lt_of_le hi h.ext.sz) fun id o e ho hg => ?_
    obtain ⟨b', e', hg', hn, _⟩ := hb.obj id o ho
    obtain rfl : b' = i := by rw [hg] at hg'; simp at hg'; exact hg'.1.symm
    have him : ∀ j, a.imm b' j := fun j => ⟨fun hN => hn (ha _ hN), fun id' o' e'' ho' hg'' => absurd hg'' (hf id' o' e'' ho')⟩
    have h2 := (h.ext.imm b' e hi (him e)).1.2 id o e ho hg
    omega
  os := h'.os.trans h.os
  output := h.output.trans h'.output

def callable (P : Program) (f : FuncId) : Bool :=
  match P.funcs[f]? with
  | some fn => fn.name != "runtime.NumGoroutine" && fn.body.isSome
  | none => false

/-- calling f with args, where the store is s: it returns; what comes back, and the store then, are as Q says -/
def AC (P : Program) (f : FuncId) (args : List V) (s : Store) (Q : V → Store → Prop) : Prop :=
  callable P f = true ∧ ∀ c : Ctx, c.s = s → R c → ∀ cargs : List Value, repL c args cargs →
    Calls P f cargs.toArray c.w fun e w' => ∃ cr r c', e = .returned cr ∧ c'.w = w' ∧ c'.N = c.N ∧ Evo c c' ∧ R c' ∧ rep c' r cr ∧ Q r c'.s

theorem AC.mono {P : Program} {f : FuncId} {args : List V} {s : Store} {Q Q' : V → Store → Prop} (h : AC P f args s Q) (hq : ∀ r s', Q r s' → Q' r s') :
    AC P f args s Q' :=
  ⟨h.1, fun c hc hR cargs ha => (h.2 c hc hR cargs ha).mono fun _ _ ⟨cr, r, c', h1, h2, h3, h4, h5, h6, h7⟩ => ⟨cr, r, c', h1, h2, h3, h4, h5, h6, hq _ _ h7⟩⟩

end Go.Proofs.YtdeondiigpidnaaGreat.Ab
end

section
set_option linter.unusedVariables false
set_option linter.unusedSimpArgs false
/- The abstract meaning of operations and of code. -/
namespace Go.Proofs.YtdeondiigpidnaaGreat.Ab
open Go
set_option linter.unusedSectionVars false
variable [Fwd]

/-- what a slot holds: nothing that matters; what is laid where nothing was done; a value; a variable of the function's own; the address of a part of such a one; the address of a part of an element of a list -/
inductive Slot where
  | junk
  | undef
  | v (x : V)
  | box (cs : List V)
  | ref (k off : Nat)
  | elt (x : V) (off : Nat)
  deriving Inhabited

abbrev Env := Nat → Slot
def set (env : Env) (d : Nat) (x : Slot) : Env := fun i => bif Nat.beq i d then x else env i
def junkAll (env : Env) : List Nat → Env
  | [] => env
  | j :: r => set (junkAll env r) j .junk

structure Hints where
  n : Nat
  esc : Nat → Bool
  lr : Nat → List Nat
  bx : Nat → Bool
  lc : Nat → Bool
  quiet : Nat → Bool
  order : Nat → Option (List Nat)
  join : Nat → Option (List Nat)
  carry : Nat → List Nat
  mu : Nat → Bool := fun _ => false

/-- where a list is to be written in place: the one that is not there yet -/
def toVw (b : Bool) (v : V) : V := match b, v with | true, .sl [] .full => .vw 0 0 0 0 | _, v => v
def muD (H : Hints) (d : Option Nat) : Bool := match d with | some d => H.mu d | none => false

def put (H : Hints) (env : Env) (d : Option Nat) (x : Slot) : Env :=
  match d with
  | none => env
  | some d => bif Nat.blt d H.n then set env d x else set env d .junk

def ofSc : Value → Option V
  | .bool b => some (.bool b)
  | .int k n => some (.int k n)
  | .string s => some (.str s)
  | .pointer none => some .nilp
  | .slice none 0 0 => some (.sl [] .full)
  | .map none => some .nilmap
  | .nilFunc => some .nilfn
  | .nilIface => some .nilif
  | _ => none
def ofL : List Value → Option (List V)
  | [] => some []
  | v :: r => match ofSc v, ofL r with
    | some x, some l => some (x :: l)
    | _, _ => none
def ofValue : Value → Option V
  | .agg cs => match ofL cs.toList with
    | some l => some (.agg l)
    | none => none
  | v => ofSc v

inductive TK where
  | sc
  | ag (n : Nat)

def sizeT (P : Program) (t : TypeId) : Option Nat := match P.info? t with | some i => some i.size | none => none
def bytesT (P : Program) (t : TypeId) : Option Nat := match P.info? t with | some i => some i.bytes | none => none
def zeroT (P : Program) (t : TypeId) : Option V :=
  match P.info? t with
  | some i => match i.zero with | some z => ofValue z | none => none
  | none => none
def tk (P : Program) (t : TypeId) : Option TK :=
  match P.underlying t with
  | none => none
  | some (.struct _) | some (.array _ _) => match sizeT P t with | some n => some (.ag n) | none => none
  | some _ => some .sc
def elemT (P : Program) (t : TypeId) : Option TypeId := match P.underlying t with | some (.slice e) => some e | _ => none
def fieldT (P : Program) (t : TypeId) (f : Nat) : Option (TypeId × Nat) :=
  match P.underlying t with
  | some (.struct fs) => match fs[f]? with | some x => some (x.type, x.offset) | none => none
  | _ => none
def placesOf (P : Program) : List Field → Option (List (Nat × Nat))
  | [] => some []
  | f :: r => match sizeT P f.type, placesOf P r with
    | some n, some l => some ((f.offset, n) :: l)
    | _, _ => none
def placesT (P : Program) (t : TypeId) : Option (List (Nat × Nat)) :=
  match P.underlying t with
  | some (.struct fs) => placesOf P fs.toList
  | _ => none

/-- a test's two ways -/
def gcond (want : Bool) (g : V) (A B : Prop) : Prop := match g with | .bool b => (bif b == want then A else B) | _ => False
def must {α : Type} (o : Option α) (K : α → Prop) : Prop := ∃ v, o = some v ∧ K v
def asB (v : V) (K : Bool → Prop) : Prop := ∃ b, v = .bool b ∧ K b
def asPtr (v : V) (K : Nat → Nat → Prop) : Prop := ∃ id off, v = .ptr id off ∧ K id off
/-- known at once, or false -/
def get {α : Type} (o : Option α) (K : α → Prop) : Prop := match o with | some v => K v | none => False

theorem must_some {α : Type} {v : α} {K : α → Prop} : must (some v) K ↔ K v := by simp [must]
theorem asB_bool {b : Bool} {K : Bool → Prop} : asB (.bool b) K ↔ K b := by simp [asB]
theorem asPtr_ptr {i j : Nat} {K : Nat → Nat → Prop} : asPtr (.ptr i j) K ↔ K i j :=
  ⟨fun ⟨_, _, h, hk⟩ => by cases h; exact hk, fun h => ⟨_, _, rfl, h⟩⟩

def rd (k : TK) (cs : List V) (off : Nat) : Option V :=
  match k with
  | .sc => match cs[off]? with
    | some v => if v.one then some v else none
    | none => none
  | .ag n => if off + n ≤ cs.length ∧ cs.all V.one then some (.agg ((cs.drop off).take n)) else none

def wr (cs : List V) (off : Nat) (xs : List V) : List V := cs.take off ++ xs ++ cs.drop (off + xs.length)

/-- may x be laid where so many cells are? -/
def fits (x : V) (n : Nat) : Prop := x.cells.length = n ∧ x.cells.all V.one = true

def allFit (n : Nat) : List V → Prop
  | [] => True
  | x :: r => fits x n ∧ allFit n r

def fillV : List (Nat × Nat × V) → List V → Option (List V)
  | [], cs => some cs
  | (off, n, x) :: r, cs =>
    if x.cells.length = n ∧ x.cells.all V.one = true ∧ off + n ≤ cs.length then fillV r (wr cs off x.cells) else none

def objCells : Obj → Option (List V)
  | .cells cs => some cs
  | .arr _ l => some (l.flatMap V.cells)
  | _ => none

def aload (k : TK) (p : V) (s : Store) (K : V → Prop) : Prop :=
  ∃ id off o cs, p = .ptr id off ∧ s id = some o ∧ objCells o = some cs ∧ must (rd k cs off) K

def astore (n : Nat) (p x : V) (s : Store) (K : Store → Prop) : Prop :=
  ∃ id off, p = .ptr id off ∧ fits x n ∧
    ((∃ cs, s id = some (.cells cs) ∧ off + n ≤ cs.length ∧ K (s.upd id (.cells (wr cs off x.cells)))) ∨
     ∃ sz l l', s id = some (.arr sz l) ∧ 0 < n ∧ off + n ≤ (l.flatMap V.cells).length ∧ l'.flatMap V.cells = wr (l.flatMap V.cells) off x.cells ∧ (∀ e ∈ l', e.cells.length = sz) ∧ K (s.upd id (.arr sz l')))

def notNil : V → Bool
  | .ptr _ _ | .fn (.func _) _ _ | .iface _ _ => true
  | _ => false

/-- what is held against each other by == -/
inductive EK where
  | bool
  | ptr
  | func
  | map
def eqV : EK → V → V → Option Bool
  | .bool, .bool a, .bool b => some (a == b)
  | .ptr, .nilp, .nilp => some true
  | .ptr, .nilp, .ptr _ _ | .ptr, .ptr _ _, .nilp => some false
  | .func, .nilfn, .nilfn => some true
  | .func, .nilfn, .fn _ _ _ | .func, .fn _ _ _, .nilfn => some false
  | .map, .nilmap, .nilmap => some true
  | .map, .nilmap, .map _ | .map, .map _, .nilmap => some false
  | _, _, _ => none
def aeq (k : EK) (op : BinOp) (x y : V) : Option V :=
  match op with
  | .eql => (eqV k x y).map V.bool
  | .neq => (eqV k x y).map fun b => .bool !b
  | _ => none
inductive OpK where
  | num
  | eq (k : EK)
  | sl
  | agg
def opK (P : Program) (t : TypeId) : Option OpK :=
  match P.underlying t with
  | some (.int _) | some .string => some .num
  | some .bool => some (.eq .bool)
  | some (.pointer _) => some (.eq .ptr)
  | some (.func _ _ _) => some (.eq .func)
  | some (.map _ _) => some (.eq .map)
  | some (.slice _) => some .sl
  | some (.struct _) => some .agg
  | _ => none

def intBin (op : BinOp) (k : IntKind) (a b : Int) : Option V :=
  match op with
  | .add => some (.int k (k.wrap (a + b)))
  | .sub => some (.int k (k.wrap (a - b)))
  | .mul => some (.int k (k.wrap (a * b)))
  | .quo => if b = 0 then none else some (.int k (k.wrap (a.tdiv b)))
  | .rem => if b = 0 then none else some (.int k (a.tmod b))
  | .eql => some (.bool (a == b))
  | .neq => some (.bool (a != b))
  | .lss => some (.bool (decide (a < b)))
  | .leq => some (.bool (decide (a ≤ b)))
  | .gtr => some (.bool (decide (a > b)))
  | .geq => some (.bool (decide (a ≥ b)))
  | .and => some (.int k (k.wrap (BitVec.ofInt k.bits a &&& BitVec.ofInt k.bits b).toNat))
  | .or => some (.int k (k.wrap (BitVec.ofInt k.bits a ||| BitVec.ofInt k.bits b).toNat))
  | .xor => some (.int k (k.wrap (BitVec.ofInt k.bits a ^^^ BitVec.ofInt k.bits b).toNat))
  | _ => none

def strBin (op : BinOp) (x y : ByteArray) : Option V :=
  match op with
  | .add => if x.size + y.size ≤ 9223372036854775807 then some (.str (x ++ y)) else none
  | .eql => some (.bool (x.toList == y.toList))
  | .neq => some (.bool !(x.toList == y.toList))
  | .lss => some (.bool (Op.bytesLess x.toList y.toList))
  | .leq => some (.bool (Op.bytesLess x.toList y.toList || x.toList == y.toList))
  | .gtr => some (.bool !(Op.bytesLess x.toList y.toList || x.toList == y.toList))
  | .geq => some (.bool !(Op.bytesLess x.toList y.toList))
  | _ => none

def abin (op : BinOp) (x y : V) : Option V :=
  match op, x, y with
  | .shl, .int k a, .int _ b => if b < 0 then none else some (.int k (k.wrap (a * 2 ^ (min b.toNat k.bits))))
  | .shr, .int k a, .int _ b => if b < 0 then none else some (.int k (a.fdiv (2 ^ (min b.toNat k.bits))))
  | op, .int k a, .int k' b => if k = k' then intBin op k a b else none
  | op, .str a, .str b => strBin op a b
  | _, _, _ => none

/-- a slice against nil -/
def nilEq (x : V) (K : Bool → Prop) : Prop :=
  match x with
  | .sl l _ => (l ≠ [] → K false) ∧ (l = [] → ∀ b, K b)
  | .vw _ _ _ len => (len ≠ 0 → K false) ∧ (len = 0 → ∀ b, K b)
  | _ => False

def aun (op : UnOp) (x : V) : Option V :=
  match op, x with
  | .not, .bool b => some (.bool !b)
  | .neg, .int k n => some (.int k (k.wrap (0 - n)))
  | _, _ => none

def aidx (sz : Nat) (x i : V) (K : Slot → Prop) : Prop :=
  match x with
  | .sl l _ => ∃ k n e, i = .int k n ∧ 0 ≤ n ∧ l[n.toNat]? = some e ∧ e.cells.length = sz ∧ K (.elt e 0)
  | .vw id sz' off len => ∃ k n, sz' = sz ∧ i = .int k n ∧ 0 ≤ n ∧ n < len ∧ K (.v (.ptr id ((off + n.toNat) * sz)))
  | _ => False

def aidxS (x i : V) (K : V → Prop) : Prop :=
  ∃ s k n b, x = .str s ∧ i = .int k n ∧ 0 ≤ n ∧ s[n.toNat]? = some b ∧ K (.int .u8 b.toNat)

/-- bounds of a slice expression, of a list of n -/
def bounds (n : Nat) (lo hi : Option V) (K : Nat → Nat → Prop) : Prop :=
  ∃ a b : Nat, (match lo with | none => a = 0 | some v => ∃ k, v = .int k a) ∧ (match hi with | none => b = n | some v => ∃ k, v = .int k b) ∧ a ≤ b ∧ b ≤ n ∧ K a b

def aslS (x : V) (lo hi : Option V) (K : V → Prop) : Prop :=
  ∃ s, x = .str s ∧ bounds s.size lo hi fun a b => K (.str (s.extract a b))

/-- a part of a list: by three indices append must make new memory -/
def asl (sz : Nat) (x : V) (lo hi mx : Option V) (K : V → Prop) : Prop :=
  match x with
  | .sl l _ => (∀ e ∈ l, e.cells.length = sz) ∧ bounds l.length lo hi fun a b =>
    (match mx with | none => True | some v => ∃ k, v = .int k b) ∧ K (.sl ((l.take b).drop a) (if mx.isSome then .full else .any))
  | .vw id sz' off len => sz' = sz ∧ bounds len lo hi fun a b =>
    (match mx with | none => True | some v => ∃ k, v = .int k b) ∧ K (.vw id sz (off + a) (b - a))
  | _ => False

inductive SK where
  | int (k : IntKind)
  | str
  | bool
  deriving DecidableEq
def hasSK : SK → V → Bool
  | .int k, .int k' _ => k == k'
  | .str, .str _ => true
  | .bool, .bool _ => true
  | _, _ => false
inductive KK where
  | one (k : SK)
  | ag (ks : List SK)
  deriving DecidableEq
def hasSKs : List SK → List V → Bool
  | [], [] => true
  | k :: r, x :: q => hasSK k x && hasSKs r q
  | _, _ => false
def hasKK : KK → V → Bool
  | .one k, v => hasSK k v
  | .ag ks, .agg l => hasSKs ks l
  | _, _ => false
def keqS : V → V → Bool
  | .bool a, .bool b => a == b
  | .int _ a, .int _ b => a == b
  | .str a, .str b => a.toList == b.toList
  | _, _ => false
def keqL : List V → List V → Bool
  | [], [] => true
  | x :: r, y :: q => keqS x y && keqL r q
  | _, _ => false
def keq : V → V → Bool
  | .agg a, .agg b => keqL a b
  | x, y => keqS x y
def skOf (P : Program) (t : TypeId) : Option SK :=
  match P.underlying t with
  | some (.int k) => some (.int k)
  | some .string => some .str
  | some .bool => some .bool
  | _ => none
def sksOf (P : Program) : List Field → Nat → Option (List SK)
  | [], _ => some []
  | f :: r, i => if f.offset = i ∧ f.name ≠ "_" then
      match skOf P f.type, sksOf P r (i + 1) with
      | some k, some l => some (k :: l)
      | _, _ => none
    else none
def kkOf (P : Program) (t : TypeId) : Option KK :=
  match P.underlying t with
  | some (.struct fs) => if P.stoodInHeld t then none else (sksOf P fs.toList 0).map .ag
  | _ => (skOf P t).map .one
/-- two structs of plain parts -/
def aggEq (P : Program) (t : TypeId) : Option (List SK) :=
  match kkOf P t with
  | some (.ag ks) => if P.eqGuardType P.depth t then none else some ks
  | _ => none
def aeqS (ks : List SK) (x y : V) (K : Bool → Prop) : Prop :=
  ∃ a b, x = .agg a ∧ y = .agg b ∧ hasSKs ks a = true ∧ hasSKs ks b = true ∧ K (keqL a b)
def mapT (P : Program) (t : TypeId) : Option (KK × V) :=
  match P.underlying t with
  | some (.map k e) => match kkOf P k, zeroT P e with
    | some kk, some z => some (kk, z)
    | _, _ => none
  | _ => none

def mlook (l : List (V × V)) (k : V) : Option V := (l.find? fun e => keq k e.1).map (·.2)
def mput : List (V × V) → V → V → List (V × V)
  | [], k, v => [(k, v)]
  | e :: r, k, v => if keq k e.1 then (k, v) :: r else e :: mput r k v
def mdel : List (V × V) → V → List (V × V)
  | [], _ => []
  | e :: r, k => if keq k e.1 then r else e :: mdel r k

def theMap (s : Store) (m : V) (l : List (V × V)) : Prop :=
  (m = .nilmap ∧ l = []) ∨ ∃ id, m = .map id ∧ (s id = some (.map l) ∨ s id = some (.mapr l))

def alook (kk : KK) (z : V) (ok : Bool) (m k : V) (s : Store) (K : V → Prop) : Prop :=
  ∃ l, theMap s m l ∧ hasKK kk k = true ∧ (∀ e ∈ l, hasKK kk e.1 = true) ∧
    K (match mlook l k with
      | some v => if ok then .tup [v, .bool true] else v
      | none => if ok then .tup [z, .bool false] else z)

def amput (kk : KK) (m k x : V) (s : Store) (K : Store → Prop) : Prop :=
  ∃ id l, m = .map id ∧ s id = some (.map l) ∧ hasKK kk k = true ∧ (∀ e ∈ l, hasKK kk e.1 = true) ∧ K (s.upd id (.map (mput l k x)))

def amdel (kk : KK) (m k : V) (s : Store) (K : Store → Prop) : Prop :=
  ∃ id l, m = .map id ∧ s id = some (.map l) ∧ hasKK kk k = true ∧ (∀ e ∈ l, hasKK kk e.1 = true) ∧ K (s.upd id (.map (mdel l k)))

def alen (d : Option TypeDesc) (x : V) (s : Store) (K : V → Prop) : Prop :=
  match d with
  | some (.slice _) => match x with | .sl l _ => K (.int .i64 l.length) | .vw _ _ _ len => K (.int .i64 len) | _ => False
  | some .string => ∃ b, x = .str b ∧ K (.int .i64 b.size)
  | some (.map _ _) => ∃ l, theMap s x l ∧ K (.int .i64 l.length)
  | _ => False

/-- what a slice holds -/
def slc (s : Store) (x : V) : Option (List V) :=
  match x with
  | .sl l _ => some l
  | .vw id sz off len => bif Nat.beq len 0 then some [] else match s id with
    | some (.arr sz' l) => bif Nat.beq sz sz' && Nat.ble (off + len) l.length then some ((l.drop off).take len) else none
    | _ => none
  | _ => none
/-- what was a slice's is none any more -/
def vwDel (s : Store) (id sz : Nat) : Store := bif Nat.beq sz 0 then s else s.del id

/-- append: sz, the cells of an element -/
def aapp (sz : Nat) (x y : V) (s : Store) (K : V → Store → Prop) : Prop :=
  ∃ l l', slc s x = some l ∧ slc s y = some l' ∧ l.length + l'.length ≤ 4294967296 ∧ (∀ e ∈ l, e.cells.length = sz) ∧ allFit sz l' ∧
    match x with
    | .sl l c =>
      (l' = [] → K (.sl l c) s) ∧
      (l' ≠ [] → (c = .full → ∀ t, s t = none → K (.sl (l ++ l') (.tip t)) (s.upd t (.tip sz))) ∧
        (∀ t, c = .tip t → s t = some (.tip sz) ∧ ∀ t', s t' = none → K (.sl (l ++ l') (.tip t')) ((s.del t).upd t' (.tip sz))) ∧ c ≠ .any)
    | .vw id sz' off len => 0 < sz ∧ (sz' = 0 ∨ (sz' = sz ∧ ∃ l0, s id = some (.arr sz l0))) ∧ (l' = [] → K x s) ∧ (l' ≠ [] → ∀ id', s id' = none → K (.vw id' sz 0 (l.length + l'.length)) ((vwDel s id sz').upd id' (.arr sz (l ++ l'))))
    | _ => False

/-- a map is gone through: it can't be written meanwhile -/
def arange (d : Option TypeDesc) (m : V) (s : Store) (K : V → Store → Prop) : Prop :=
  match d with
  | some (.map _ _) => ∃ id l, m = .map id ∧ s id = some (.map l) ∧ ∀ it, s it = none → K (.ptr it 0) ((s.upd id (.mapr l)).upd it (.iter id none l))
  | _ => False
def anext (it : V) (s : Store) (K : V → Store → Prop) : Prop :=
  ∃ i m cur left l, it = .ptr i 0 ∧ s i = some (.iter m cur left) ∧ s m = some (.mapr l) ∧ (left = [] → K (.tup [.bool false]) s) ∧
    ∀ a x b, left = a ++ x :: b → K (.tup [.bool true, x.1, x.2]) (s.upd i (.iter m (some x) (a ++ b)))
def aentry (it : V) (s : Store) (K : V → Prop) : Prop :=
  ∃ i m x left l, it = .ptr i 0 ∧ s i = some (.iter m (some x) left) ∧ s m = some (.mapr l) ∧ K (.tup [x.1, x.2])

def acall (P : Program) (f : V) (args : List V) (s : Store) (K : V → Store → Prop) : Prop :=
  ∃ g a b, f = .fn (.func g) a b ∧ AC P g (a ++ args ++ b) s K

/-- a store that has all that another one has -/
def Store.le (s s' : Store) : Prop := ∀ i o, s i = some o → s' i = some o

def opnd (env : Env) : Operand → Option V
  | .tmp t => match env t with | .v x => some x | _ => none
  | .const v => ofValue v
  | .func f => some (.fn (.func f) [] [])
  | .global _ => none
def opnds (env : Env) : List Operand → Option (List V)
  | [] => some []
  | x :: r => match opnd env x, opnds env r with
    | some v, some l => some (v :: l)
    | _, _ => none
def opndO (env : Env) : Option Operand → Option (Option V)
  | none => some none
  | some x => match opnd env x with | some v => some (some v) | none => none
def parts (pl : List (Nat × Nat)) (env : Env) : List (Nat × Operand) → Option (List (Nat × Nat × V))
  | [] => some []
  | (i, x) :: r => match pl[i]?, opnd env x, parts pl env r with
    | some (off, n), some v, some l => some ((off, n, v) :: l)
    | _, _, _ => none
/-- all elements of a list that is written out, in their order -/
def elems (env : Env) : Nat → List (Nat × Operand) → Option (List V)
  | _, [] => some []
  | k, (i, x) :: r => bif Nat.beq i k then (match opnd env x, elems env (k + 1) r with
      | some v, some l => some (v :: l)
      | _, _ => none) else none
def slotOf (env : Env) : Operand → Slot
  | .tmp t => env t
  | x => match opnd env x with | some v => .v v | none => .junk

def mem (x : Nat) : List Nat → Bool
  | [] => false
  | y :: r => Nat.beq x y || mem x r

/-- the address of a part -/
def partAddr (H : Hints) (env : Env) (x : Operand) (dst : Option Nat) (off : Nat) (K : Slot → Prop) : Prop :=
  match x, slotOf env x, dst with
  | .tmp k, .box _, some d => bif mem d (H.lr k) then K (.ref k off) else False
  | _, .ref k o, some d => bif mem d (H.lr k) then K (.ref k (o + off)) else False
  | _, .elt e o, _ => K (.elt e (o + off))
  | _, .v p, _ => asPtr p fun id o => K (.v (.ptr id (o + off)))
  | _, _, _ => False

abbrev Cont := Env → Store → Prop

/-- an address of a variable of the function's own? -/
def isLc (H : Hints) : Operand → Bool
  | .tmp t => H.lc t
  | _ => false

/-- what comes behind an operation: how the slots are turned, and the store -/
abbrev RCont := (Env → Env) → Store → Prop
def contOf (env : Env) (K : Cont) : RCont := fun f s => K (f env) s

def newVarR (H : Hints) (dst : Option Nat) (cs : List V) (s : Store) (R : RCont) : Prop :=
  match dst with
  | none => False
  | some d => bif Nat.blt d H.n then
      bif H.esc d then ∀ id, s id = none → R (fun env => put H env dst (.v (.ptr id 0))) (s.upd id (.cells cs))
      else R (fun env => set (junkAll env (H.lr d)) d (.box cs)) s
    else False
def newVar (H : Hints) (env : Env) (dst : Option Nat) (cs : List V) (s : Store) (K : Cont) : Prop := newVarR H dst cs s (contOf env K)

def isNilSlice : Operand → Bool
  | .const (.slice none _ _) => true
  | _ => false

/-- the slots that a store by this address may turn -/
def refIn (H : Hints) (a : Operand) (b : Nat) : Bool := match a with | .tmp t => Nat.blt b H.n && mem t (H.lr b) | _ => false
def storeOpR (H : Hints) (o : Oper) (n : Nat) (x : V) (a : Operand) (env : Env) (s : Store) (R : RCont) : Prop :=
  match a, slotOf env a with
  | .tmp b, .box cs => fits x n ∧ x.cells.length = cs.length ∧ R (fun env => put H (set env b (.box x.cells)) o.dst .undef) s
  | a, .ref b off => bif refIn H a b then (match env b with
    | .box cs => fits x n ∧ off + n ≤ cs.length ∧ R (fun env => put H (set env b (.box (wr cs off x.cells))) o.dst .undef) s
    | _ => False) else False
  | _, .v p => astore n p x s fun s' => R (fun env => put H env o.dst .undef) s'
  | _, _ => False
def storeOp (H : Hints) (o : Oper) (n : Nat) (x : V) (a : Operand) (env : Env) (s : Store) (K : Cont) : Prop := storeOpR H o n x a env s (contOf env K)

def nilOut (H : Hints) (dst : Option Nat) (x : Operand) (env : Env) (K : Slot → Prop) : Prop :=
  match x, slotOf env x with
  | .tmp k, .box _ => partAddr H env (.tmp k) dst 0 K
  | x, .ref _ _ => partAddr H env x dst 0 K
  | _, .elt e off => K (.elt e off)
  | _, .v p => notNil p = true ∧ K (.v p)
  | _, _ => False
def nilOp (H : Hints) (o : Oper) (x : Operand) (env : Env) (s : Store) (K : Cont) : Prop := nilOut H o.dst x env fun y => K (put H env o.dst y) s

def cmpB (op : BinOp) (b : Bool) (out : V → Prop) : Prop := match op with | .eql => out (.bool b) | .neq => out (.bool !b) | _ => False

/-- operations that make one thing, and write nothing -/
def outR (P : Program) (H : Hints) (qc : Bool) (dst : Option Nat) (op : Op) (env : Env) (s : Store) (K : Slot → Prop) : Prop :=
  match op with
  | .move x | .assign x => get (opnd env x) fun v => K (.v (toVw (muD H dst) v))
  | .pick c a b => get (opnd env c) fun c => gcond true c (get (opnd env a) fun v => K (.v v)) (get (opnd env b) fun v => K (.v v))
  | .build T ps => get (placesT P T) fun pl => get (zeroT P T) fun z => get (parts pl env ps.toList) fun l => must (fillV l z.cells) fun cs => K (.v (.agg cs))
  | .buildSlice T n ps => get (elemT P T) fun e => get (zeroT P e) fun _ => get (sizeT P e) fun sz => get (elems env 0 ps.toList) fun l =>
      bif Nat.ble (n * sz) 16777216 && Nat.beq l.length n then allFit sz l ∧ K (.v (.sl l .full)) else False
  | .load T a => get (tk P T) fun k =>
      match slotOf env a with
      | .box cs => must (rd k cs 0) fun v => K (.v v)
      | .ref b off => match env b with | .box cs => must (rd k cs off) fun v => K (.v v) | _ => False
      | .elt x off => must (rd k x.cells off) fun v => K (.v v)
      | .v p => bif qc && isLc H a then False else aload k p s fun v => K (.v v)
      | _ => False
  | .nilCheck x => nilOut H dst x env K
  | .binOp op T x y _ => get (opnd env x) fun xv => get (opnd env y) fun yv =>
      match opK P T with
      | some .num => must (abin op xv yv) fun v => K (.v v)
      | some (.eq k) => must (aeq k op xv yv) fun v => K (.v v)
      | some .sl => bif isNilSlice y then nilEq xv fun b => cmpB op b fun v => K (.v v) else False
      | some .agg => get (aggEq P T) fun ks => aeqS ks xv yv fun b => cmpB op b fun v => K (.v v)
      | none => False
  | .unOp op _ x => get (opnd env x) fun x => must (aun op x) fun v => K (.v v)
  | .convert src dst x => get (opnd env x) fun x =>
      match P.underlying src, P.underlying dst with
      | some (.int _), some (.int k) => ∃ k' n, x = .int k' n ∧ K (.v (.int k (k.wrap n)))
      | some .string, some .string => ∃ b, x = .str b ∧ K (.v x)
      | _, _ => False
  | .makeInterface T x => get (opnd env x) fun x =>
      match P.underlying T with
      | some (.interface _) | none => False
      | some _ => K (.v (.iface T x))
  | .makeFunc fn a b => get (opnds env a.toList) fun a => get (opnds env b.toList) fun b => K (.v (.fn fn a b))
  | .slice T x lo hi mx => get (opnd env x) fun x => get (opndO env lo) fun lo => get (opndO env hi) fun hi => get (opndO env mx) fun mx =>
      match P.underlying T with
      | some .string => bif mx.isSome then False else aslS x lo hi fun v => K (.v v)
      | some (.slice e) => get (sizeT P e) fun sz => bif mx.isSome && hi.isNone then False else asl sz x lo hi mx fun v => K (.v v)
      | _ => False
  | .fieldAddr T x f => get (fieldT P T f) fun tf => get (sizeT P tf.1) fun n => bif Nat.beq n 0 then False else partAddr H env x dst tf.2 K
  | .field T x f => get (opnd env x) fun x => get (fieldT P T f) fun tf => get (tk P tf.1) fun k => ∃ cs, x = .agg cs ∧ must (rd k cs tf.2) fun v => K (.v v)
  | .indexAddr T x i => get (opnd env i) fun i =>
      match P.underlying T with
      | some (.slice e) => get (sizeT P e) fun sz => get (opnd env x) fun x => aidx sz x i K
      | some (.array len e) => get (sizeT P e) fun sz => ∃ k n, i = .int k n ∧ 0 ≤ n ∧ n < len ∧ partAddr H env x dst (n.toNat * sz) K
      | _ => False
  | .index T x i => get (opnd env i) fun i => get (opnd env x) fun x =>
      match P.underlying T with
      | some .string => aidxS x i fun v => K (.v v)
      | some (.array len e) => get (tk P e) fun k => get (sizeT P e) fun sz => ∃ cs k' n, x = .agg cs ∧ i = .int k' n ∧ 0 ≤ n ∧ n < len ∧ must (rd k cs (n.toNat * sz)) fun v => K (.v v)
      | _ => False
  | .lookup T m k ok => get (opnd env m) fun m => get (opnd env k) fun k => get (mapT P T) fun t => alook t.1 t.2 ok m k s fun v => K (.v v)
  | .extract t i => get (opnd env t) fun t => ∃ l, t = .tup l ∧ must l[i]? fun v => K (.v v)
  | .call c => get (opnds env c.args.toList) fun args =>
      match c.callee with
      | .builtin b => match b, args, c.argTypes.toList with
        | .len, [x], T :: _ => alen (P.underlying T) x s fun v => K (.v v)
        | .max, [x, y], _ => ∃ k a b, x = .int k a ∧ y = .int k b ∧ K (.v (.int k (if b > a then b else a)))
        | .min, [x, y], _ => ∃ k a b, x = .int k a ∧ y = .int k b ∧ K (.v (.int k (if b < a then b else a)))
        | _, _, _ => False
      | _ => False
  | _ => False

def aopR (P : Program) (H : Hints) (qc : Bool) (o : Oper) (env : Env) (s : Store) (R : RCont) : Prop :=
  match o.op with
  | .alloc T => get (zeroT P T) fun z => newVarR H o.dst z.cells s R
  | .box T x => get (sizeT P T) fun n => get (opnd env x) fun x => fits x n ∧ newVarR H o.dst x.cells s R
  | .store T a x => get (sizeT P T) fun n => get (opnd env x) fun x => storeOpR H o n x a env s R
  | .range T x => get (opnd env x) fun x => arange (P.underlying T) x s fun v s' => R (fun env => put H env o.dst (.v v)) s'
  | .next x str => get (opnd env x) fun x => bif str then False else anext x s fun v s' => R (fun env => put H env o.dst (.v v)) s'
  | .entry x => get (opnd env x) fun x => aentry x s fun v => R (fun env => put H env o.dst (.v v)) s
  | .makeMap _ r => match r with
      | none => ∀ id, s id = none → R (fun env => put H env o.dst (.v (.map id))) (s.upd id (.map []))
      | some _ => False
  | .mapUpdate T m k x | .insert T m k x => get (opnd env m) fun m => get (opnd env k) fun k => get (opnd env x) fun x => get (mapT P T) fun t => amput t.1 m k x s fun s' => R (fun env => put H env o.dst .undef) s'
  | .call c =>
      match c.callee with
      | .value (.func f) => get (opnds env c.args.toList) fun args =>
          bif qc && H.quiet f then AC P f args s (fun r s' => s.le s' ∧ R (fun env => put H env o.dst (.v r)) s') else AC P f args s fun r s' => R (fun env => put H env o.dst (.v r)) s'
      | .value f => get (opnds env c.args.toList) fun args => get (opnd env f) fun f => acall P f args s fun r s' => R (fun env => put H env o.dst (.v r)) s'
      | .invoke _ _ => False
      | .builtin .append => get (opnds env c.args.toList) fun args => match args, c.argTypes.toList with
        | [x, y], [T, T'] => get (elemT P T) fun e => get (elemT P T') fun _ => get (sizeT P e) fun sz => get (bytesT P e) fun by' => get (zeroT P e) fun z =>
            bif Nat.ble by' 8192 && Nat.beq z.cells.length sz then aapp sz x y s fun r s' => R (fun env => put H env o.dst (.v r)) s' else False
        | _, _ => False
      | .builtin .delete => get (opnds env c.args.toList) fun args => match args, c.argTypes.toList with
        | [m, k], T :: _ => get (mapT P T) fun t => amdel t.1 m k s fun s' => R (fun env => put H env o.dst .undef) s'
        | _, _ => False
      | .builtin _ => outR P H qc o.dst o.op env s fun x => R (fun env => put H env o.dst x) s
  | _ => outR P H qc o.dst o.op env s fun x => R (fun env => put H env o.dst x) s

def aop (P : Program) (H : Hints) (qc : Bool) (o : Oper) (env : Env) (s : Store) (K : Cont) : Prop := aopR P H qc o env s (contOf env K)

/-- the slot that an operation of a region writes -/
def dstAt (ops : List Oper) (j : Nat) : Option Nat := match ops[j]? with | some o => o.dst | none => none

def aopG (P : Program) (H : Hints) (qc : Bool) (ops : List Oper) (o : Oper) (env : Env) (s : Store) (K : Cont) : Prop :=
  match o.guard with
  | none => aop P H qc o env s K
  | some (j, want) => match dstAt ops j with
    | none => False
    | some d => match env d with
      | .undef => K (put H env o.dst .undef) s
      | .v g => gcond want g (aop P H qc o (set env d (.v (.bool want))) s K) (K (put H (set env d (.v (.bool !want))) o.dst .undef) s)
      | _ => False

def aops (P : Program) (H : Hints) (qc : Bool) (ops : List Oper) : List Oper → Env → Store → Cont → Prop
  | [], env, s, K => K env s
  | o :: r, env, s, K => aopG P H qc ops o env s fun env s => aops P H qc ops r env s K

end Go.Proofs.YtdeondiigpidnaaGreat.Ab
end

section
set_option linter.unusedVariables false
set_option linter.unusedSimpArgs false
/- The abstract meaning of code: statements, branches, loops. -/
namespace Go.Proofs.YtdeondiigpidnaaGreat.Ab
open Go
set_option linter.unusedSectionVars false
variable [Fwd]

inductive AExit where
  | normal
  | exit (id : Nat)
  | ret

abbrev Post := AExit → Env → Store → Prop

def orElse (a b : Option Nat) : Option Nat := match a with | some x => some x | none => b
def firstR : Code → Option Nat
  | .region id _ _ => some id
  | .seq a b => orElse (firstR a) (firstR b)
  | .cond _ a b => orElse (firstR a) (firstR b)
  | .block _ c => firstR c
  | .loop c => firstR c
  | .scope c => firstR c
  | .rangeFunc _ _ a b => orElse (firstR a) (firstR b)
  | _ => none

/-- slots that an operation may turn -/
def asgOp (H : Hints) (o : Oper) : List Nat :=
  (match o.dst with | some d => d :: H.lr d | none => []) ++
  (match o.op with
   | .store _ (.tmp a) _ => a :: (List.range H.n).filter fun k => mem a (H.lr k)
   | _ => [])
def asgOps (H : Hints) : List Oper → List Nat
  | [] => []
  | o :: r => asgOp H o ++ asgOps H r
def asg (H : Hints) : Code → List Nat
  | .region _ ops _ => asgOps H ops.toList
  | .seq a b => asg H a ++ asg H b
  | .cond _ a b => asg H a ++ asg H b
  | .block _ c => asg H c
  | .loop c => asg H c
  | .scope c => asg H c
  | .rangeFunc _ _ a b => asg H a ++ asg H b
  | _ => []

def getV (H : Hints) (env : Env) (t : Nat) (K : V → Prop) : Prop :=
  match H.bx t, env t with
  | true, .box cs => K (.agg cs)
  | false, .v x => K x
  | _, _ => False
def getVs (H : Hints) (env : Env) : List Nat → (List V → Prop) → Prop
  | [], K => K []
  | t :: r, K => getV H env t fun v => getVs H env r fun vs => K (v :: vs)
def nth (vs : List V) (i : Nat) : V := vs.getD i .nilp
def setVs (H : Hints) (env : Env) (vs : List V) : List Nat → Nat → Env
  | [], _ => env
  | t :: r, i => set (setVs H env vs r (i + 1)) t (bif H.bx t then .box (nth vs i).cells else .v (nth vs i))
/-- the slots at the head of a round, or where ways meet: those of cl hold vs, what else may have been turned is not known -/
def headEnv (H : Hints) (env : Env) (a : List Nat) (cl : List Nat) (vs : List V) : Env :=
  setVs H (fun i => bif mem i a then .junk else env i) vs cl 0

def thenQ (K : Cont) (Q : Post) : Post
  | .normal, env, s => K env s
  | e, env, s => Q e env s

def pick (ops : List Oper) : List Nat → List Oper
  | [] => []
  | i :: r => match ops[i]? with | some o => o :: pick ops r | none => pick ops r
def ordered (H : Hints) (id : Nat) (ops : List Oper) : List Oper :=
  match H.order id with
  | none => ops
  | some l => pick ops l

def lfp (F : (List V → Store → Prop) → List V → Store → Prop) (vs : List V) (s : Store) : Prop :=
  ∀ X : List V → Store → Prop, (∀ vs s, F X vs s → X vs s) → X vs s

def awp (P : Program) (H : Hints) : Code → Post → Cont
  | .skip, Q, env, s => Q .normal env s
  | .label _, Q, env, s => Q .normal env s
  | .region id ops draw, Q, env, s =>
    bif draw then aops P H true ops.toList (ordered H id ops.toList) env s (Q .normal) else aops P H false ops.toList ops.toList env s (Q .normal)
  | .seq a b, Q, env, s =>
    match orElse (firstR b) none with
    | none => awp P H a (thenQ (awp P H b Q) Q) env s
    | some j => match H.join j with
      | none => awp P H a (thenQ (awp P H b Q) Q) env s
      | some cl => awp P H a (thenQ (fun env' s' => getVs H env' cl fun vs => awp P H b Q (headEnv H env (asg H a) cl vs) s') Q) env s
  | .cond c a b, Q, env, s => get (opnd env c) fun c => gcond true c (awp P H a Q env s) (awp P H b Q env s)
  | .block id c, Q, env, s => awp P H c (fun e env s => match e with | .exit i => bif Nat.beq i id then Q .normal env s else Q (.exit i) env s | e => Q e env s) env s
  | .loop c, Q, env, s =>
    match firstR c with
    | none => False
    | some j => getVs H env (H.carry j) fun vs =>
      lfp (fun X vs s => awp P H c (thenQ (fun env' s' => getVs H env' (H.carry j) fun vs' => X vs' s') Q) (headEnv H env (asg H c) (H.carry j) vs) s) vs s
  | .exit id, Q, env, s => Q (.exit id) env s
  | .ret, Q, env, s => Q .ret env s
  | .scope c, Q, env, s => awp P H c Q env s
  | _, _, _, _ => False

/-- what a function gives back -/
def resV (P : Program) (env : Env) (s : Store) : ResultVar → (V → Prop) → Prop
  | .tmp t, K => get (opnd env (.tmp t)) K
  | .cell a T, K => get (tk P T) fun k => match env a with
    | .box cs => must (rd k cs 0) K
    | .v p => aload k p s K
    | _ => False
def resVs (P : Program) (env : Env) (s : Store) : List ResultVar → (List V → Prop) → Prop
  | [], K => K []
  | x :: r, K => resV P env s x fun v => resVs P env s r fun vs => K (v :: vs)

def one (vs : List V) : V := match vs with | [x] => x | vs => .tup vs

def bodyQ (P : Program) (rs : List ResultVar) (K : V → Store → Prop) : Post
  | .exit _, _, _ => False
  | _, env, s => resVs P env s rs fun vs => K (one vs) s

def envOf (args : List V) : Env := fun i => match args[i]? with | some x => .v x | none => .junk

/-- the whole function -/
def afun (P : Program) (H : Hints) (fn : Func) (args : List V) (s : Store) (K : V → Store → Prop) : Prop :=
  match fn.body with
  | some c => bif Nat.ble args.length H.n then awp P H c (bodyQ P fn.results.toList K) (envOf args) s else False
  | none => False

end Go.Proofs.YtdeondiigpidnaaGreat.Ab
end

section
set_option linter.unusedVariables false
set_option linter.unusedSimpArgs false
/- How contexts go on: a new block, a cell that is written, a map that is turned. -/
namespace Go.Proofs.YtdeondiigpidnaaGreat.Ab
open Go
set_option linter.unusedSectionVars false
variable [Fwd]
set_option linter.unusedVariables false
set_option linter.unusedSimpArgs false

/-- what iterators ask of a step -/
structure Ranged (c c' : Ctx) : Prop where
  map : ∀ m l, (c.g m).isSome → c'.s m = some (.map l) → ∃ l', c.s m = some (.map l')
  mapr : ∀ m l bm e, c.g m = some (bm, e) → c'.s m = some (.mapr l) → c.s m = some (.mapr l) ∧ c'.w.heap[bm]? = c.w.heap[bm]?

theorem objRep_ext {c c' : Ctx} (h : Ext c c') (hr : Ranged c c') {b e : Nat} (hb : c'.w.heap[b]? = c.w.heap[b]?) :
    ∀ {o : Obj}, objRep c b e o → objRep c' b e o
  | .cells cs, ⟨h1, vs, T, h2, h3⟩ => ⟨h1, vs, T, repL_ext h _ _ h2, hb.trans h3⟩
  | .arr sz l, ⟨vs, k, T, h1, h2, h3, h4⟩ => ⟨vs, k, T, repL_ext h _ _ h1, h2, hb.trans h3, h4⟩
  | .map l, ⟨h1, es, k, h2, h3, h4⟩ => ⟨h1, es, k, hb.trans h2, repM_ext h _ _ h3, h4⟩
  | .mapr l, ⟨h1, es, k, h2, h3, h4⟩ => ⟨h1, es, k, hb.trans h2, repM_ext h _ _ h3, h4⟩
  | .tip sz, ⟨k, T, h1, h2⟩ => ⟨k, T, hb.trans h1, h2⟩
  | .iter m cur left, ⟨h1, h2, bm, since, seen, h3, h4, h5⟩ =>
    ⟨h1, fun l hl => (let ⟨l', h'⟩ := hr.map m l (by simp [h3]) hl; h2 l' h'), bm, since, seen, h.g _ _ h3, hb.trans h4, fun l hl =>
      let ⟨h6, h7⟩ := hr.mapr m l bm 0 h3 hl
      let ⟨es, h8, h9, h10⟩ := h5 l h6
      ⟨es, h7.trans h8, repM_ext h _ _ h9, fun x hx => let ⟨y, k1, k2, k3, k4⟩ := h10 x hx; ⟨y, k1, k2, rep_ext h _ _ k3, rep_ext h _ _ k4⟩⟩⟩

theorem objRep_lt {c : Ctx} {b e : Nat} {o : Obj} (h : objRep c b e o) : b < c.w.heap.size := by
  have key : ∀ x, c.w.heap[b]? = some x → b < c.w.heap.size := fun x hx => by
    rcases Nat.lt_or_ge b c.w.heap.size with h1 | h1
    · exact h1
    · simp [Array.getElem?_eq_none h1] at hx
  cases o with
  | cells cs => obtain ⟨_, _, _, _, h⟩ := h; exact key _ h
  | arr sz l => obtain ⟨_, _, _, _, _, h, _⟩ := h; exact key _ h
  | map l => obtain ⟨_, _, _, h, _⟩ := h; exact key _ h
  | mapr l => obtain ⟨_, _, _, h, _⟩ := h; exact key _ h
  | tip sz => obtain ⟨_, _, h, _⟩ := h; exact key _ h
  | iter m cur left => obtain ⟨_, _, _, _, _, _, h, _⟩ := h; exact key _ h

/-- where the heap is the same nothing changes -/
theorem Ext.same {c : Ctx} {w' : World} (h : w'.heap = c.w.heap) : Ext c { c with w := w' } where
  g := fun _ _ h => h
  sz := by simp [h]
  imm := fun b i _ hi => ⟨hi, by simp [World.cell?, h]⟩
  shape := fun b _ => by simp [World.shape?, h]
  tip := fun _ _ _ h => h

theorem R.same {c : Ctx} {w' : World} (hR : R c) (h : w'.heap = c.w.heap) : R { c with w := w' } where
  obj := fun id o ho => by
    obtain ⟨b, e, h1, h2, h3⟩ := hR.obj id o ho
    exact ⟨b, e, h1, h2, objRep_ext (Ext.same h) ⟨fun m l _ hl => ⟨l, hl⟩, fun m l bm e' hg hl => ⟨hl, by simp [h]⟩⟩ (by simp [h]) h3⟩
  sep := hR.sep
  nb := fun b hb => by simpa [h] using hR.nb b hb
  gb := fun id b e hb => by simpa [h] using hR.gb id b e hb
  fin := hR.fin

/-- fewer blocks that must not be written, or read -/
theorem R.lessN {c : Ctx} {N : Nat → Prop} (hR : R c) (h : ∀ b, N b → c.N b) : R { c with N := N } where
  obj := fun id o ho => by
    obtain ⟨b, e, h1, h2, h3⟩ := hR.obj id o ho
    have hx : Ext c { c with N := N } := ⟨fun _ _ h => h, Nat.le_refl _, fun b i _ hi => ⟨⟨fun hn => hi.1 (h _ hn), hi.2⟩, rfl⟩, fun _ _ => rfl, fun _ _ _ h => h⟩
    exact ⟨b, e, h1, fun hn => h2 (h _ hn), objRep_ext hx ⟨fun m l _ hl => ⟨l, hl⟩, fun m l bm e' hg hl => ⟨hl, rfl⟩⟩ rfl h3⟩
  sep := hR.sep
  nb := fun b hb => hR.nb b (h _ hb)
  gb := hR.gb
  fin := hR.fin

theorem Ext.lessN {c : Ctx} {N : Nat → Prop} (h : ∀ b, N b → c.N b) : Ext c { c with N := N } :=
  ⟨fun _ _ h => h, Nat.le_refl _, fun b i _ hi => ⟨⟨fun hn => hi.1 (h _ hn), hi.2⟩, rfl⟩, fun _ _ => rfl, fun _ _ _ h => h⟩

def World.pushed (w : World) (o : Go.Obj) : World := { w with heap := w.heap.push o }

theorem push_lt {w : World} {o : Go.Obj} {b : Nat} (h : b < w.heap.size) : (World.pushed w o).heap[b]? = w.heap[b]? := by
  show (w.heap.push o)[b]? = _
  rw [Array.getElem?_push, if_neg (Nat.ne_of_lt h)]
theorem push_at {w : World} {o : Go.Obj} : (World.pushed w o).heap[w.heap.size]? = some o := by
  show (w.heap.push o)[w.heap.size]? = _
  rw [Array.getElem?_push, if_pos rfl]

/-- a new block for an object of the store -/
def Ctx.newObj (c : Ctx) (id e : Nat) (o : Obj) (co : Go.Obj) : Ctx :=
  { g := fun j => if j = id then some (c.w.heap.size, e) else c.g j, s := c.s.upd id o, N := c.N, w := World.pushed c.w co }

theorem Ext.newObj {c : Ctx} (hR : R c) {id e : Nat} {o : Obj} {co : Go.Obj} (hid : c.g id = none) : Ext c (c.newObj id e o co) where
  g := fun j x hj => by
    have : j ≠ id := fun h => by subst h; simp [hid] at hj
    simp [Ctx.newObj, this, hj]
  sz := by simp [Ctx.newObj, World.pushed]
  imm := fun b i hb hi => by
    refine ⟨⟨hi.1, fun j o' e' hs hg => ?_⟩, by simp [Ctx.newObj, World.cell?, push_lt hb]⟩
    by_cases hj : j = id
    · subst hj; simp [Ctx.newObj] at hg; omega
    · simp [Ctx.newObj, Store.upd, hj] at hs hg; exact hi.2 j o' e' hs hg
  shape := fun b hb => by simp [Ctx.newObj, World.shape?, push_lt hb]
  tip := fun t sz ht hs => by
    have : t ≠ id := fun h => by subst h; simp [hid] at ht
    simpa [Ctx.newObj, Store.upd, this] using hs

theorem R.newObj {c : Ctx} (hR : R c) {id e : Nat} {o : Obj} {co : Go.Obj} (hid : c.g id = none) (ho : objRep (c.newObj id e o co) c.w.heap.size e o) :
    R (c.newObj id e o co) where
  obj := fun j o' hj => by
    by_cases h : j = id
    · subst h
      obtain rfl : o = o' := by simpa [Ctx.newObj, Store.upd] using hj
      exact ⟨c.w.heap.size, e, by simp [Ctx.newObj], fun hn => Nat.lt_irrefl _ (hR.nb _ hn), ho⟩
    · have hj' : c.s j = some o' := by simpa [Ctx.newObj, Store.upd, h] using hj
      obtain ⟨b, e', h1, h2, h3⟩ := hR.obj j o' hj'
      have hb := hR.gb j b e' h1
      refine ⟨b, e', by simp [Ctx.newObj, h, h1], h2, objRep_ext (Ext.newObj hR hid) ⟨fun m l hm hl => ?_, fun m l bm e'' hg hl => ?_⟩ (push_lt hb) h3⟩
      · have : m ≠ id := fun h => by subst h; simp [hid] at hm
        exact ⟨l, by simpa [Ctx.newObj, Store.upd, this] using hl⟩
      · have : m ≠ id := fun h => by subst h; simp [hid] at hg
        exact ⟨by simpa [Ctx.newObj, Store.upd, this] using hl, push_lt (hR.gb m bm e'' hg)⟩
  sep := fun i j o1 o2 b e1 e2 h1 h2 g1 g2 => by
    by_cases hi : i = id <;> by_cases hj : j = id
    · rw [hi, hj]
    · subst hi; simp [Ctx.newObj, Store.upd, hj] at g1 g2; have := hR.gb j b e2 g2; omega
    · subst hj; simp [Ctx.newObj, Store.upd, hi] at g1 g2; have := hR.gb i b e1 g1; omega
    · simp [Ctx.newObj, Store.upd, hi, hj] at h1 h2 g1 g2
      exact hR.sep i j o1 o2 b e1 e2 h1 h2 g1 g2
  nb := fun b hb => by have := hR.nb b hb; simp [Ctx.newObj, World.pushed]; omega
  gb := fun j b e' hj => by
    by_cases h : j = id
    · subst h; simp [Ctx.newObj] at hj; simp [Ctx.newObj, World.pushed]; omega
    · simp [Ctx.newObj, h] at hj; have := hR.gb j b e' hj; simp [Ctx.newObj, World.pushed]; omega
  fin := by
    obtain ⟨k, hk⟩ := hR.fin
    refine ⟨max k (id + 1), fun j hj => ?_⟩
    have : j ≠ id := by omega
    simp [Ctx.newObj, this]; exact hk j (by omega)

theorem Evo.newObj {c : Ctx} (hR : R c) {id e : Nat} {o : Obj} {co : Go.Obj} (hid : c.g id = none) : Evo c (c.newObj id e o co) :=
  ⟨Ext.newObj hR hid, fun b hb _ => push_lt hb, rfl, ⟨rfl, rfl, fun _ => Nat.le_refl _⟩⟩

/-- a new block that is nobody's: what lies there never changes -/
def Ctx.pushed (c : Ctx) (co : Go.Obj) : Ctx := { c with w := World.pushed c.w co }

theorem Ext.pushed {c : Ctx} (co : Go.Obj) : Ext c (c.pushed co) where
  g := fun _ _ h => h
  sz := by simp [Ctx.pushed, World.pushed]
  imm := fun b i hb hi => ⟨hi, by simp [Ctx.pushed, World.cell?, push_lt hb]⟩
  shape := fun b hb => by simp [Ctx.pushed, World.shape?, push_lt hb]
  tip := fun _ _ _ h => h

theorem R.pushed {c : Ctx} (hR : R c) (co : Go.Obj) : R (c.pushed co) where
  obj := fun j o hj => by
    obtain ⟨b, e, h1, h2, h3⟩ := hR.obj j o hj
    exact ⟨b, e, h1, h2, objRep_ext (Ext.pushed co) ⟨fun m l _ hl => ⟨l, hl⟩, fun m l bm e' hg hl => ⟨hl, push_lt (hR.gb m bm e' hg)⟩⟩ (push_lt (hR.gb j b e h1)) h3⟩
  sep := hR.sep
  nb := fun b hb => by have := hR.nb b hb; simp [Ctx.pushed, World.pushed]; omega
  gb := fun j b e hj => by have := hR.gb j b e hj; simp [Ctx.pushed, World.pushed]; omega
  fin := hR.fin

theorem Evo.pushed {c : Ctx} (co : Go.Obj) : Evo c (c.pushed co) := ⟨Ext.pushed co, fun b hb _ => push_lt hb, rfl, ⟨rfl, rfl, fun _ => Nat.le_refl _⟩⟩

/-- a new block that is the function's own -/
def Ctx.newBox (c : Ctx) (co : Go.Obj) : Ctx := { c with N := fun b => c.N b ∨ b = c.w.heap.size, w := World.pushed c.w co }

theorem Ext.newBox {c : Ctx} (co : Go.Obj) : Ext c (c.newBox co) where
  g := fun _ _ h => h
  sz := by simp [Ctx.newBox, World.pushed]
  imm := fun b i hb hi => ⟨⟨fun hn => hn.elim hi.1 (by omega), hi.2⟩, by simp [Ctx.newBox, World.cell?, push_lt hb]⟩
  shape := fun b hb => by simp [Ctx.newBox, World.shape?, push_lt hb]
  tip := fun _ _ _ h => h

theorem R.newBox {c : Ctx} (hR : R c) (co : Go.Obj) : R (c.newBox co) where
  obj := fun j o hj => by
    obtain ⟨b, e, h1, h2, h3⟩ := hR.obj j o hj
    have hb := hR.gb j b e h1
    exact ⟨b, e, h1, fun hn => hn.elim h2 (by omega), objRep_ext (Ext.newBox co) ⟨fun m l _ hl => ⟨l, hl⟩, fun m l bm e' hg hl => ⟨hl, push_lt (hR.gb m bm e' hg)⟩⟩ (push_lt hb) h3⟩
  sep := hR.sep
  nb := fun b hb => by
    rcases hb with hb | rfl
    · have := hR.nb b hb; simp [Ctx.newBox, World.pushed]; omega
    · simp [Ctx.newBox, World.pushed]
  gb := fun j b e hj => by have := hR.gb j b e hj; simp [Ctx.newBox, World.pushed]; omega
  fin := hR.fin

end Go.Proofs.YtdeondiigpidnaaGreat.Ab
end

section
set_option linter.unusedVariables false
set_option linter.unusedSimpArgs false
/- How contexts go on: what is written. -/
namespace Go.Proofs.YtdeondiigpidnaaGreat.Ab
open Go
set_option linter.unusedSectionVars false
variable [Fwd]
set_option linter.unusedVariables false
set_option linter.unusedSimpArgs false

def World.wrote (w : World) (b : Nat) (co : Go.Obj) : World := { w with heap := w.heap.setIfInBounds b co }

theorem wrote_ne {w : World} {b i : Nat} {co : Go.Obj} (h : i ≠ b) : (World.wrote w b co).heap[i]? = w.heap[i]? := by
  simp [World.wrote, Array.getElem?_setIfInBounds_ne (Ne.symm h)]
theorem wrote_at {w : World} {b : Nat} {co : Go.Obj} (h : b < w.heap.size) : (World.wrote w b co).heap[b]? = some co := by
  simp [World.wrote, h]
theorem wrote_size {w : World} {b : Nat} {co : Go.Obj} : (World.wrote w b co).heap.size = w.heap.size := by simp [World.wrote]

/-- a block of the function's own is written -/
theorem Ext.wroteBox {c : Ctx} {b : Nat} {co : Go.Obj} (hb : c.N b) (hs : (World.wrote c.w b co).shape? b = c.w.shape? b) :
    Ext c { c with w := World.wrote c.w b co } where
  g := fun _ _ h => h
  sz := by simp [World.wrote]
  imm := fun i j hi hm => by
    have : i ≠ b := fun h => hm.1 (h ▸ hb)
    exact ⟨hm, by simp [World.cell?, wrote_ne this]⟩
  shape := fun i hi => by
    by_cases h : i = b
    · subst h; exact hs
    · simp [World.shape?, wrote_ne h]
  tip := fun _ _ _ h => h

theorem R.wroteBox {c : Ctx} (hR : R c) {b : Nat} {co : Go.Obj} (hb : c.N b) (hs : (World.wrote c.w b co).shape? b = c.w.shape? b) :
    R { c with w := World.wrote c.w b co } where
  obj := fun j o hj => by
    obtain ⟨b', e, h1, h2, h3⟩ := hR.obj j o hj
    have hne : b' ≠ b := fun h => h2 (h ▸ hb)
    refine ⟨b', e, h1, h2, objRep_ext (Ext.wroteBox hb hs) ⟨fun m l _ hl => ⟨l, hl⟩, fun m l bm e' hg hl => ⟨hl, ?_⟩⟩ (wrote_ne hne) h3⟩
    obtain ⟨b2, e2, g2, n2, _⟩ := hR.obj m _ hl
    have hg' : c.g m = some (bm, e') := hg
    rw [g2] at hg'
    cases hg'
    exact wrote_ne fun h => n2 (h ▸ hb)
  sep := hR.sep
  nb := fun i hi => by have := hR.nb i hi; simpa [World.wrote] using this
  gb := fun i b' e h => by have := hR.gb i b' e h; simpa [World.wrote] using this
  fin := hR.fin

/-- not a mark, not a map that is gone through -/
def Obj.plain : Obj → Bool
  | .cells _ | .arr _ _ | .map _ | .iter _ _ _ => true
  | _ => false
def Obj.kindOf : Obj → Nat
  | .cells _ => 0
  | .arr _ _ => 1
  | .map _ => 2
  | .mapr _ => 3
  | .tip _ => 4
  | .iter _ _ _ => 5

/-- an object of the store is written -/
def Ctx.wrote (c : Ctx) (id b : Nat) (o : Obj) (co : Go.Obj) : Ctx := { c with s := c.s.upd id o, w := World.wrote c.w b co }

section
variable {c : Ctx} {id b e : Nat} {o o' : Obj} {co : Go.Obj}

theorem Ext.wrote (hg : c.g id = some (b, e)) (ho : c.s id = some o) (hp : o.plain = true) (hk : o.kindOf = o'.kindOf)
    (hs : (World.wrote c.w b co).shape? b = c.w.shape? b) : Ext c (c.wrote id b o' co) where
  g := fun _ _ h => h
  sz := by simp [Ctx.wrote, World.wrote]
  imm := fun i j hi hm => by
    have hno : i ≠ b := fun h => by
      obtain ⟨⟨sz, hsz⟩, _⟩ := hm.2 id o e ho (h ▸ hg)
      subst hsz; simp [Obj.plain] at hp
    refine ⟨⟨hm.1, fun k ok ek hk1 hk2 => ?_⟩, by simp [Ctx.wrote, World.cell?, wrote_ne hno]⟩
    by_cases hki : k = id
    · subst hki
      have : c.g k = some (i, ek) := hk2
      rw [hg] at this; cases this; exact absurd rfl hno
    · exact hm.2 k ok ek (by simpa [Ctx.wrote, Store.upd, hki] using hk1) hk2
  shape := fun i hi => by
    by_cases h : i = b
    · subst h; exact hs
    · simp [Ctx.wrote, World.shape?, wrote_ne h]
  tip := fun t sz ht h => by
    by_cases hti : t = id
    · subst hti
      obtain rfl : o' = .tip sz := by simpa [Ctx.wrote, Store.upd] using h
      cases o <;> simp [Obj.plain, Obj.kindOf] at hp hk
    · simpa [Ctx.wrote, Store.upd, hti] using h

theorem R.wrote (hR : R c) (hg : c.g id = some (b, e)) (ho : c.s id = some o) (hp : o.plain = true) (hk : o.kindOf = o'.kindOf)
    (hs : (World.wrote c.w b co).shape? b = c.w.shape? b) (hrep : objRep (c.wrote id b o' co) b e o') : R (c.wrote id b o' co) where
  obj := fun j oj hj => by
    by_cases h : j = id
    · subst h
      obtain rfl : o' = oj := by simpa [Ctx.wrote, Store.upd] using hj
      obtain ⟨b', e', h1, h2, h3⟩ := hR.obj j o ho
      rw [hg] at h1; cases h1
      exact ⟨b, e, hg, h2, hrep⟩
    · have hj' : c.s j = some oj := by simpa [Ctx.wrote, Store.upd, h] using hj
      obtain ⟨b', e', h1, h2, h3⟩ := hR.obj j oj hj'
      have hne : b' ≠ b := fun hb => h (hR.sep j id oj o b' e' e hj' ho h1 (hb ▸ hg))
      refine ⟨b', e', h1, h2, objRep_ext (Ext.wrote hg ho hp hk hs) ⟨fun m l _ hl => ?_, fun m l bm em hgm hl => ?_⟩ (wrote_ne hne) h3⟩
      · by_cases hm : m = id
        · subst hm
          obtain rfl : o' = .map l := by simpa [Ctx.wrote, Store.upd] using hl
          cases o <;> simp [Obj.kindOf] at hk
          exact ⟨_, ho⟩
        · exact ⟨l, by simpa [Ctx.wrote, Store.upd, hm] using hl⟩
      · by_cases hm : m = id
        · subst hm
          obtain rfl : o' = .mapr l := by simpa [Ctx.wrote, Store.upd] using hl
          cases o <;> simp [Obj.plain, Obj.kindOf] at hp hk
        · have hl' : c.s m = some (.mapr l) := by simpa [Ctx.wrote, Store.upd, hm] using hl
          exact ⟨hl', wrote_ne fun hb => hm (hR.sep m id _ o bm em e hl' ho hgm (hb ▸ hg))⟩
  sep := fun i j o1 o2 b' e1 e2 h1 h2 g1 g2 => by
    have f : ∀ k ok, (c.wrote id b o' co).s k = some ok → ∃ ok', c.s k = some ok' := fun k ok hk => by
      by_cases h : k = id
      · subst h; exact ⟨o, ho⟩
      · exact ⟨ok, by simpa [Ctx.wrote, Store.upd, h] using hk⟩
    obtain ⟨_, f1⟩ := f i o1 h1
    obtain ⟨_, f2⟩ := f j o2 h2
    exact hR.sep i j _ _ b' e1 e2 f1 f2 g1 g2
  nb := fun i hi => by have := hR.nb i hi; simpa [Ctx.wrote, World.wrote] using this
  gb := fun i b' e h => by have := hR.gb i b' e h; simpa [Ctx.wrote, World.wrote] using this
  fin := hR.fin

theorem Evo.wrote (hg : c.g id = some (b, e)) (ho : c.s id = some o) (hp : o.plain = true) (hk : o.kindOf = o'.kindOf)
    (hs : (World.wrote c.w b co).shape? b = c.w.shape? b) : Evo c (c.wrote id b o' co) :=
  ⟨Ext.wrote hg ho hp hk hs, fun i hi hf => wrote_ne fun h => hf id o e ho (h ▸ hg), rfl, ⟨rfl, rfl, fun _ => Nat.le_refl _⟩⟩
end

/-- a store with less in it -/
theorem Ext.less {c : Ctx} {s : Store} (h : s.le c.s) : Ext c { c with s := s } where
  g := fun _ _ h => h
  sz := Nat.le_refl _
  imm := fun b i _ hi => ⟨⟨hi.1, fun id o e ho hg => hi.2 id o e (h _ _ ho) hg⟩, rfl⟩
  shape := fun _ _ => rfl
  tip := fun t sz _ ht => h _ _ ht

theorem R.less {c : Ctx} (hR : R c) {s : Store} (h : s.le c.s) : R { c with s := s } where
  obj := fun j o hj => by
    obtain ⟨b, e, h1, h2, h3⟩ := hR.obj j o (h _ _ hj)
    exact ⟨b, e, h1, h2, objRep_ext (Ext.less h) ⟨fun m l _ hl => ⟨l, h _ _ hl⟩, fun m l bm e' hg hl => ⟨h _ _ hl, rfl⟩⟩ rfl h3⟩
  sep := fun i j o1 o2 b e1 e2 h1 h2 => hR.sep i j o1 o2 b e1 e2 (h _ _ h1) (h _ _ h2)
  nb := hR.nb
  gb := hR.gb
  fin := hR.fin

theorem Evo.less {c : Ctx} {s : Store} (h : s.le c.s) : Evo c { c with s := s } := ⟨Ext.less h, fun _ _ _ => rfl, rfl, .refl _⟩

theorem Evo.same {c : Ctx} {w' : World} (h : w'.heap = c.w.heap) (ho : w'.os = c.w.os) (hp : Onw c.w w') : Evo c { c with w := w' } :=
  ⟨Ext.same h, fun _ _ _ => by simp [h], ho, hp⟩

theorem del_le (s : Store) (t : Nat) : (s.del t).le s := fun i o h => by
  by_cases hi : i = t
  · simp [Store.del, hi] at h
  · simpa [Store.del, hi] using h

/-- a slice is grown in place: its mark is spent, and there is a new one -/
def Ctx.grown (c : Ctx) (t t' b e' sz : Nat) (co : Go.Obj) : Ctx :=
  { g := fun j => if j = t' then some (b, e') else c.g j, s := (c.s.del t).upd t' (.tip sz), N := c.N, w := World.wrote c.w b co }

section
variable {c : Ctx} {t t' b e e' sz sz' : Nat} {co : Go.Obj}

theorem Ext.grown (hR : R c) (hg : c.g t = some (b, e)) (ht : c.s t = some (.tip sz)) (hn : c.g t' = none) (hle : e ≤ e')
    (hs : (World.wrote c.w b co).shape? b = c.w.shape? b)
    (hc : ∀ i, i < e → (World.wrote c.w b co).cell? ⟨b, i, none⟩ = c.w.cell? ⟨b, i, none⟩) : Ext c (c.grown t t' b e' sz' co) where
  g := fun j x hj => by
    have : j ≠ t' := fun h => by subst h; simp [hn] at hj
    simp [Ctx.grown, this, hj]
  sz := by simp [Ctx.grown, World.wrote]
  imm := fun i j hi hm => by
    constructor
    · refine ⟨hm.1, fun k ok ek hk1 hk2 => ?_⟩
      by_cases hk : k = t'
      · subst hk
        have hk2' : some (b, e') = some (i, ek) := by simpa [Ctx.grown] using hk2
        cases hk2'
        obtain ⟨_, h2⟩ := hm.2 t _ e ht hg
        exact ⟨⟨sz', by simpa [Ctx.grown, Store.upd] using hk1.symm⟩, by omega⟩
      · have hk1' : (c.s.del t) k = some ok := by simpa [Ctx.grown, Store.upd, hk] using hk1
        exact hm.2 k ok ek (del_le _ _ _ _ hk1') (by simpa [Ctx.grown, hk] using hk2)
    · by_cases hb : i = b
      · subst hb
        obtain ⟨_, h2⟩ := hm.2 t _ e ht hg
        exact hc j h2
      · simp [Ctx.grown, World.cell?, wrote_ne hb]
  shape := fun i hi => by
    by_cases h : i = b
    · subst h; exact hs
    · simp [Ctx.grown, World.shape?, wrote_ne h]
  tip := fun k z hk h => by
    have : k ≠ t' := fun h => by subst h; simp [hn] at hk
    exact del_le _ _ _ _ (by simpa [Ctx.grown, Store.upd, this] using h)

theorem R.grown (hR : R c) (hg : c.g t = some (b, e)) (ht : c.s t = some (.tip sz)) (hn : c.g t' = none) (hle : e ≤ e')
    (hs : (World.wrote c.w b co).shape? b = c.w.shape? b)
    (hc : ∀ i, i < e → (World.wrote c.w b co).cell? ⟨b, i, none⟩ = c.w.cell? ⟨b, i, none⟩)
    (hrep : objRep (c.grown t t' b e' sz' co) b e' (.tip sz')) : R (c.grown t t' b e' sz' co) where
  obj := fun j oj hj => by
    by_cases h : j = t'
    · subst h
      obtain rfl : Obj.tip sz' = oj := by simpa [Ctx.grown, Store.upd] using hj
      obtain ⟨b2, e2, g2, n2, _⟩ := hR.obj t _ ht
      rw [hg] at g2; cases g2
      exact ⟨b, e', by simp [Ctx.grown], n2, hrep⟩
    · have hj1 : (c.s.del t) j = some oj := by simpa [Ctx.grown, Store.upd, h] using hj
      have hjt : j ≠ t := fun h => by simp [Store.del, h] at hj1
      have hj' : c.s j = some oj := del_le _ _ _ _ hj1
      obtain ⟨b', e1, h1, h2, h3⟩ := hR.obj j oj hj'
      have hne : b' ≠ b := fun hb => hjt (hR.sep j t oj _ b' e1 e hj' ht h1 (hb ▸ hg))
      refine ⟨b', e1, by simp [Ctx.grown, h, h1], h2, objRep_ext (Ext.grown hR hg ht hn hle hs hc) ⟨fun m l hm hl => ?_, fun m l bm em hgm hl => ?_⟩ (wrote_ne hne) h3⟩
      · have hm' : m ≠ t' := fun h => by subst h; simp [hn] at hm
        exact ⟨l, del_le _ _ _ _ (by simpa [Ctx.grown, Store.upd, hm'] using hl)⟩
      · have hm' : m ≠ t' := fun h => by subst h; simp [hn] at hgm
        have hl1 : (c.s.del t) m = some (.mapr l) := by simpa [Ctx.grown, Store.upd, hm'] using hl
        have hmt : m ≠ t := fun h => by simp [Store.del, h] at hl1
        have hl' := del_le _ _ _ _ hl1
        exact ⟨hl', wrote_ne fun hb => hmt (hR.sep m t _ _ bm em e hl' ht hgm (hb ▸ hg))⟩
  sep := fun i j o1 o2 b' e1 e2 h1 h2 g1 g2 => by
    have f : ∀ k ok b' e1, (c.grown t t' b e' sz' co).s k = some ok → (c.grown t t' b e' sz' co).g k = some (b', e1) → k ≠ t' → c.s k = some ok ∧ c.g k = some (b', e1) ∧ k ≠ t :=
      fun k ok b' e1 hk hg hne => by
        have h1 : (c.s.del t) k = some ok := by simpa [Ctx.grown, Store.upd, hne] using hk
        exact ⟨del_le _ _ _ _ h1, by simpa [Ctx.grown, hne] using hg, fun h => by simp [Store.del, h] at h1⟩
    by_cases hi : i = t' <;> by_cases hj : j = t'
    · rw [hi, hj]
    · obtain ⟨f1, f2, f3⟩ := f j o2 b' e2 h2 g2 hj
      have : some (b, e') = some (b', e1) := by simpa [Ctx.grown, hi] using g1
      cases this
      exact absurd (hR.sep j t _ _ b e2 e f1 ht f2 hg) f3
    · obtain ⟨f1, f2, f3⟩ := f i o1 b' e1 h1 g1 hi
      have : some (b, e') = some (b', e2) := by simpa [Ctx.grown, hj] using g2
      cases this
      exact absurd (hR.sep i t _ _ b e1 e f1 ht f2 hg) f3
    · obtain ⟨f1, f2, _⟩ := f i o1 b' e1 h1 g1 hi
      obtain ⟨f4, f5, _⟩ := f j o2 b' e2 h2 g2 hj
      exact hR.sep i j o1 o2 b' e1 e2 f1 f4 f2 f5
  nb := fun i hi => by have := hR.nb i hi; simpa [Ctx.grown, World.wrote] using this
  gb := fun i b' e1 h => by
    by_cases hi : i = t'
    · have : some (b, e') = some (b', e1) := by simpa [Ctx.grown, hi] using h
      cases this
      have := hR.gb t b e hg; simpa [Ctx.grown, World.wrote] using this
    · have := hR.gb i b' e1 (by simpa [Ctx.grown, hi] using h); simpa [Ctx.grown, World.wrote] using this
  fin := by
    obtain ⟨k, hk⟩ := hR.fin
    refine ⟨max k (t' + 1), fun j hj => ?_⟩
    have : j ≠ t' := by omega
    simp [Ctx.grown, this]; exact hk j (by omega)

theorem Evo.grown (hR : R c) (hg : c.g t = some (b, e)) (ht : c.s t = some (.tip sz)) (hn : c.g t' = none) (hle : e ≤ e')
    (hs : (World.wrote c.w b co).shape? b = c.w.shape? b)
    (hc : ∀ i, i < e → (World.wrote c.w b co).cell? ⟨b, i, none⟩ = c.w.cell? ⟨b, i, none⟩) : Evo c (c.grown t t' b e' sz' co) :=
  ⟨Ext.grown hR hg ht hn hle hs hc, fun i hi hf => wrote_ne fun h => hf t _ e ht (h ▸ hg), rfl, ⟨rfl, rfl, fun _ => Nat.le_refl _⟩⟩
end

/-- a number that nothing has -/
theorem R.fresh {c : Ctx} (hR : R c) : ∃ id, c.g id = none ∧ c.s id = none := by
  obtain ⟨k, hk⟩ := hR.fin
  refine ⟨k, hk k (Nat.le_refl _), ?_⟩
  cases hs : c.s k with
  | none => rfl
  | some o => obtain ⟨b, e, h, _⟩ := hR.obj k o hs; simp [hk k (Nat.le_refl _)] at h

end Go.Proofs.YtdeondiigpidnaaGreat.Ab
end

section
set_option linter.unusedVariables false
set_option linter.unusedSimpArgs false
/- The state of a function at work, and its abstract twin. -/
namespace Go.Proofs.YtdeondiigpidnaaGreat.Ab
open Go
set_option linter.unusedSectionVars false
variable [Fwd]
set_option linter.unusedVariables false
set_option linter.unusedSimpArgs false

/-- a variable of the function's own, in memory -/
def boxAt (c0 c : Ctx) (b : Nat) (cs : List V) : Prop :=
  c.N b ∧ c0.w.heap.size ≤ b ∧ ∃ vs T, repL c cs vs ∧ c.w.heap[b]? = some (.cells vs.toArray T (0, 0))

def slotOk (c : Ctx) : Slot → Value → Prop
  | .junk, _ => True
  | .undef, v => v = Go.undef
  | .v x, v => rep c x v
  | .elt x off, v => ∃ b o vx, rep c x vx ∧ placed c b o vx.cells.toList ∧ v = .pointer (some ⟨b, o + off, none⟩)
  | .box _, _ => False
  | .ref _ _, _ => False

def slotRep (H : Hints) (c0 c : Ctx) (blk : Nat → Nat) (t : Nat) : Slot → Value → Prop
  | .box cs, v => v = .pointer (some ⟨blk t, 0, none⟩) ∧ boxAt c0 c (blk t) cs
  | .ref k off, v => v = .pointer (some ⟨blk k, off, none⟩) ∧ mem t (H.lr k) = true
  | x, v => slotOk c x v

theorem slotRep_of_ok {H : Hints} {c0 c : Ctx} {blk : Nat → Nat} {t : Nat} {x : Slot} {v : Value} (h : slotOk c x v) : slotRep H c0 c blk t x v := by
  cases x <;> first | exact h | exact h.elim

structure Envs (H : Hints) (c0 c : Ctx) (env : Env) (a : Act) (blk : Nat → Nat) : Prop where
  slot : ∀ t, slotRep H c0 c blk t (env t) (a.tmps.getD t undef)
  inj : ∀ t t' cs cs', env t = .box cs → env t' = .box cs' → blk t = blk t' → t = t'

structure RelC (H : Hints) (c0 c : Ctx) (env : Env) (a : Act) : Prop where
  nsub : ∀ b, c0.N b → c.N b
  nnew : ∀ b, c.N b → c0.N b ∨ c0.w.heap.size ≤ b
  r : R c
  evo : Evo c0 { c with N := c0.N }
  envs : ∃ blk, Envs H c0 c env a blk
  defers : a.defers = []
  size : H.n ≤ a.tmps.size

def Rel (H : Hints) (c0 : Ctx) (env : Env) (s : Store) (a : Act) (w : World) : Prop := ∃ c, c.s = s ∧ c.w = w ∧ RelC H c0 c env a

/-- one step of the function's own: what was there goes on standing for what it stood for -/
structure Step (c0 c c' : Ctx) : Prop where
  ext : Ext c c'
  box : ∀ b, c.N b → c'.N b ∧ c'.w.heap[b]? = c.w.heap[b]?
  nnew : ∀ b, c'.N b → c.N b ∨ c0.w.heap.size ≤ b
  r : R c'
  free : ∀ b, b < c.w.heap.size → b < c0.w.heap.size → (∀ id o e, c.s id = some o → c.g id ≠ some (b, e)) → c'.w.heap[b]? = c.w.heap[b]?
  os : c'.w.os = c.w.os
  output : Onw c.w c'.w

theorem Evo.step {H : Hints} {c0 c c' : Ctx} {env : Env} {a : Act} (hr : RelC H c0 c env a) (h : Step c0 c c') : Evo c0 { c' with N := c0.N } := by
  have hsz : c0.w.heap.size ≤ c.w.heap.size := hr.evo.ext.sz
  refine ⟨⟨fun id x hx => h.ext.g _ _ (hr.evo.ext.g _ _ hx), Nat.le_trans hsz h.ext.sz, fun b i hb hi => ?_, fun b hb => ?_, fun t sz ht hs => ?_⟩, fun b hb hf => ?_, h.os.trans hr.evo.os, hr.evo.output.trans h.output⟩
  · obtain ⟨h1, h2⟩ := hr.evo.ext.imm b i hb hi
    have hnb : ¬ c.N b := fun hn => (hr.nnew b hn).elim hi.1 (by omega)
    obtain ⟨h3, h4⟩ := h.ext.imm b i (Nat.lt_of_lt_of_le hb hsz) ⟨hnb, h1.2⟩
    exact ⟨⟨hi.1, h3.2⟩, h4.trans h2⟩
  · exact (h.ext.shape b (Nat.lt_of_lt_of_le hb hsz)).trans (hr.evo.ext.shape b hb)
  · have := h.ext.tip t sz ?_ hs
    · exact hr.evo.ext.tip t sz ht this
    · cases hg : c0.g t with
      | none => simp [hg] at ht
      | some x => have := hr.evo.ext.g t x hg; simp at this; simp [this]
  · have h1 := hr.evo.free b hb hf
    rw [← h1]
    refine h.free b (Nat.lt_of_lt_of_le hb hsz) hb fun id o e ho hg => ?_
    obtain ⟨b', e', g', n', _⟩ := hr.r.obj id o ho
    have : some (b, e) = some (b', e') := hg.symm.trans g'
    cases this
    have him : ∀ j, c0.imm b j := fun j => ⟨fun hN => n' (hr.nsub _ hN), fun id' o' e'' ho' hg'' => absurd hg'' (hf id' o' e'' ho')⟩
    have := (hr.evo.ext.imm b e hb (him e)).1.2 id o e ho hg
    omega

theorem slotRep_step {H : Hints} {c0 c c' : Ctx} {blk : Nat → Nat} {t : Nat} {x : Slot} {v : Value} (h : Step c0 c c') (hs : slotRep H c0 c blk t x v) : slotRep H c0 c' blk t x v := by
  cases x with
  | junk => trivial
  | undef => exact hs
  | v x => exact rep_ext h.ext _ _ hs
  | elt x off => obtain ⟨b, o, vx, h1, h2, h3⟩ := hs; exact ⟨b, o, vx, rep_ext h.ext _ _ h1, h2.ext h.ext, h3⟩
  | box cs =>
    obtain ⟨h1, h2, h3, vs, T, h4, h5⟩ := hs
    obtain ⟨h6, h7⟩ := h.box _ h2
    exact ⟨h1, h6, h3, vs, T, repL_ext h.ext _ _ h4, h7.trans h5⟩
  | ref k off => exact hs

theorem RelC.step {H : Hints} {c0 c c' : Ctx} {env : Env} {a : Act} (hr : RelC H c0 c env a) (h : Step c0 c c') : RelC H c0 c' env a where
  nsub := fun b hb => (h.box b (hr.nsub b hb)).1
  nnew := fun b hb => (h.nnew b hb).elim (hr.nnew b) .inr
  r := h.r
  evo := Evo.step hr h
  envs := by
    obtain ⟨blk, h1, h2⟩ := hr.envs
    exact ⟨blk, fun t => slotRep_step h (h1 t), h2⟩
  defers := hr.defers
  size := hr.size

theorem Step.refl {c0 c : Ctx} (h : R c) : Step c0 c c := ⟨.refl c, fun b hb => ⟨hb, rfl⟩, fun b hb => .inl hb, h, fun _ _ _ _ => rfl, rfl, .refl _⟩

/-- what Evo says, with the same blocks kept out, is a step -/
theorem Step.of_evo {c0 c c' : Ctx} (hc : R c) (h : Evo c c') (hr : R c') (hN : c'.N = c.N) : Step c0 c c' where
  ext := h.ext
  box := fun b hb => ⟨hN ▸ hb, h.free b (hc.nb b hb) fun id o e ho hg => by
    obtain ⟨b', e', g', n', _⟩ := hc.obj id o ho
    rw [hg] at g'; cases g'; exact n' hb⟩
  nnew := fun b hb => .inl (hN ▸ hb)
  r := hr
  free := fun b hb _ hf => h.free b hb hf
  os := h.os
  output := h.output

theorem Step.newBox {c0 c : Ctx} (hc : R c) (hsz : c0.w.heap.size ≤ c.w.heap.size) (co : Go.Obj) : Step c0 c (c.newBox co) where
  ext := Ext.newBox co
  box := fun b hb => ⟨.inl hb, push_lt (hc.nb b hb)⟩
  nnew := fun b hb => hb.elim .inl fun h => .inr (h ▸ hsz)
  r := hc.newBox co
  free := fun b hb _ _ => push_lt hb
  os := rfl
  output := ⟨rfl, rfl, fun _ => Nat.le_refl _⟩

/-! slots -/
theorem set_same (env : Env) (d : Nat) (x : Slot) : set env d x d = x := by simp [set]
theorem set_ne (env : Env) {d t : Nat} (x : Slot) (h : t ≠ d) : set env d x t = env t := by
  have : Nat.beq t d = false := by
    cases hb : Nat.beq t d with
    | false => rfl
    | true => exact absurd (Nat.eq_of_beq_eq_true hb) h
  simp [set, this]

theorem getD_put {a : Act} {d : Nat} {v : Value} (h : d < a.tmps.size) : (a.put (some d) v).tmps.getD d undef = v := by
  simp [Act.put, h]
theorem getD_put_ne {a : Act} {d t : Nat} {v : Value} (h : t ≠ d) : (a.put (some d) v).tmps.getD t undef = a.tmps.getD t undef := by
  simp [Act.put, Array.getElem?_setIfInBounds_ne (Ne.symm h)]
theorem size_put {a : Act} {d : Option Nat} {v : Value} : (a.put d v).tmps.size = a.tmps.size := by cases d <;> simp [Act.put]
theorem defers_put {a : Act} {d : Option Nat} {v : Value} : (a.put d v).defers = a.defers := by cases d <;> rfl

theorem Envs.set {H : Hints} {c0 c : Ctx} {env : Env} {a : Act} {blk : Nat → Nat} {d : Nat} {x : Slot} {v : Value} (h : Envs H c0 c env a blk)
    (hx : slotOk c x v) (hd : x = .junk ∨ d < a.tmps.size) : Envs H c0 c (Ab.set env d x) (a.put (some d) v) blk where
  slot := fun t => by
    by_cases htd : t = d
    · subst htd
      rw [set_same]
      rcases hd with rfl | hd
      · trivial
      · rw [getD_put hd]; exact slotRep_of_ok hx
    · rw [set_ne _ _ htd, getD_put_ne htd]; exact h.slot t
  inj := fun t t' cs cs' ht ht' hb => by
    have f : ∀ t cs, Ab.set env d x t = .box cs → t ≠ d := fun t cs ht htd => by subst htd; rw [set_same] at ht; subst ht; exact hx
    exact h.inj t t' cs cs' (by rwa [set_ne _ _ (f t cs ht)] at ht) (by rwa [set_ne _ _ (f t' cs' ht')] at ht') hb

theorem blt_true {a b : Nat} : Nat.blt a b = true ↔ a < b := by rw [Nat.blt_eq]
theorem blt_false {a b : Nat} (h : ¬ a < b) : Nat.blt a b = false := by
  cases hb : Nat.blt a b with
  | false => rfl
  | true => exact absurd (blt_true.1 hb) h

/-- a slot is laid that is neither a variable of the function's own nor its address -/
theorem RelC.put {H : Hints} {c0 c : Ctx} {env : Env} {a : Act} {d : Option Nat} {x : Slot} {v : Value} (hr : RelC H c0 c env a) (hx : slotOk c x v) :
    RelC H c0 c (Ab.put H env d x) (a.put d v) := by
  cases d with
  | none => exact hr
  | some d =>
    obtain ⟨blk, h⟩ := hr.envs
    by_cases hd : d < H.n
    · have e1 : Ab.put H env (some d) x = Ab.set env d x := by simp [Ab.put, blt_true.2 hd]
      rw [e1]
      exact ⟨hr.nsub, hr.nnew, hr.r, hr.evo, ⟨blk, h.set hx (.inr (Nat.lt_of_lt_of_le hd hr.size))⟩, hr.defers, by rw [size_put]; exact hr.size⟩
    · have e1 : Ab.put H env (some d) x = Ab.set env d .junk := by simp [Ab.put, blt_false hd]
      rw [e1]
      exact ⟨hr.nsub, hr.nnew, hr.r, hr.evo, ⟨blk, h.set (x := .junk) trivial (.inl rfl)⟩, hr.defers, by rw [size_put]; exact hr.size⟩

theorem mem_iff {x : Nat} : ∀ {l : List Nat}, mem x l = true ↔ x ∈ l
  | [] => by simp [mem]
  | y :: r => by simp [mem, mem_iff (l := r)]

/-- the address of a part of a variable of the function's own -/
theorem RelC.putRef {H : Hints} {c0 c : Ctx} {env : Env} {a : Act} {d k off : Nat} {v : Value} (hr : RelC H c0 c env a) (hm : mem d (H.lr k) = true)
    (hv : ∀ blk, Envs H c0 c env a blk → v = .pointer (some ⟨blk k, off, none⟩)) :
    RelC H c0 c (Ab.put H env (some d) (.ref k off)) (a.put (some d) v) := by
  obtain ⟨blk, h⟩ := hr.envs
  by_cases hd : d < H.n
  · have e1 : Ab.put H env (some d) (.ref k off) = Ab.set env d (.ref k off) := by simp [Ab.put, blt_true.2 hd]
    rw [e1]
    refine ⟨hr.nsub, hr.nnew, hr.r, hr.evo, ⟨blk, fun t => ?_, fun t t' cs cs' ht ht' hb => ?_⟩, hr.defers, by rw [size_put]; exact hr.size⟩
    · by_cases htd : t = d
      · subst htd
        rw [set_same, getD_put (Nat.lt_of_lt_of_le hd hr.size)]
        exact ⟨hv blk h, hm⟩
      · rw [set_ne _ _ htd, getD_put_ne htd]; exact h.slot t
    · have f : ∀ t cs, Ab.set env d (.ref k off) t = .box cs → t ≠ d := fun t cs ht htd => by subst htd; rw [set_same] at ht; cases ht
      exact h.inj t t' cs cs' (by rwa [set_ne _ _ (f t cs ht)] at ht) (by rwa [set_ne _ _ (f t' cs' ht')] at ht') hb
  · have e1 : Ab.put H env (some d) (.ref k off) = Ab.set env d .junk := by simp [Ab.put, blt_false hd]
    rw [e1]
    exact ⟨hr.nsub, hr.nnew, hr.r, hr.evo, ⟨blk, h.set (x := .junk) trivial (.inl rfl)⟩, hr.defers, by rw [size_put]; exact hr.size⟩

theorem junkAll_apply (env : Env) (t : Nat) : ∀ l : List Nat, junkAll env l t = if t ∈ l then .junk else env t
  | [] => by simp [junkAll]
  | j :: r => by
    by_cases h : t = j
    · subst h; simp [junkAll, set_same]
    · simp [junkAll, set_ne _ _ h, junkAll_apply env t r, h]

/-- a new variable of the function's own -/
theorem RelC.newBox {H : Hints} {c0 c : Ctx} {env : Env} {a : Act} {d : Nat} {cs : List V} {vs : List Value} {T : TypeId} (hr : RelC H c0 c env a) (hd : d < H.n)
    (hv : repL c cs vs) :
    RelC H c0 (c.newBox (.cells vs.toArray T)) (Ab.set (junkAll env (H.lr d)) d (.box cs)) (a.put (some d) (.pointer (some ⟨c.w.heap.size, 0, none⟩))) := by
  have hst := Step.newBox (c0 := c0) hr.r hr.evo.ext.sz (.cells vs.toArray T)
  have hr' := hr.step hst
  obtain ⟨blk, h⟩ := hr.envs
  refine ⟨hr'.nsub, hr'.nnew, hr'.r, hr'.evo, ⟨fun t => if t = d then c.w.heap.size else blk t, fun t => ?_, fun t t' cs1 cs2 ht ht' hb => ?_⟩, hr.defers, by rw [size_put]; exact hr.size⟩
  · by_cases htd : t = d
    · subst htd
      rw [set_same, getD_put (Nat.lt_of_lt_of_le hd hr.size)]
      refine ⟨by simp, .inr (by simp), by simpa using hr.evo.ext.sz, vs, T, repL_ext hst.ext _ _ hv, ?_⟩
      simpa [Ctx.newBox] using push_at
    · rw [set_ne _ _ htd, getD_put_ne htd, junkAll_apply]
      split
      · trivial
      · rename_i hl
        have := slotRep_step hst (h.slot t)
        cases he : env t with
        | ref k off =>
          rw [he] at this
          have hkd : k ≠ d := fun hk => hl (mem_iff.1 (hk ▸ this.2))
          simpa [slotRep, hkd] using this
        | box cs1 => rw [he] at this; simpa [slotRep, htd] using this
        | junk => trivial
        | undef => rw [he] at this; exact this
        | v x => rw [he] at this; exact this
        | elt x off => rw [he] at this; exact this
  · have f : ∀ t cs1, Ab.set (junkAll env (H.lr d)) d (.box cs) t = .box cs1 → t ≠ d → env t = .box cs1 ∧ blk t < c.w.heap.size := fun t cs1 ht htd => by
      rw [set_ne _ _ htd, junkAll_apply] at ht
      split at ht
      · cases ht
      · refine ⟨ht, ?_⟩
        have := h.slot t
        rw [ht] at this
        exact hr.r.nb _ this.2.1
    by_cases h1 : t = d <;> by_cases h2 : t' = d
    · rw [h1, h2]
    · obtain ⟨_, f2⟩ := f t' cs2 ht' h2
      simp [h1, h2] at hb; omega
    · obtain ⟨_, f2⟩ := f t cs1 ht h1
      simp [h1, h2] at hb; omega
    · simp [h1, h2] at hb
      exact h.inj t t' cs1 cs2 (f t cs1 ht h1).1 (f t' cs2 ht' h2).1 hb

theorem repL_length {c : Ctx} : ∀ {l : List V} {vs : List Value}, repL c l vs → vs.length = l.length
  | [], vs, h => by simp [repL] at h; simp [h]
  | x :: r, vs, h => by
    simp only [repL] at h
    obtain ⟨y, ys, rfl, _, h⟩ := h
    simp [repL_length h]

/-- a variable of the function's own is written -/
theorem RelC.wroteBox {H : Hints} {c0 c : Ctx} {env : Env} {a : Act} {k : Nat} {cs cs' : List V} {vs vs' : List Value} {T : TypeId} {b : Nat} (hr : RelC H c0 c env a)
    (hk : env k = .box cs) (hb : ∀ blk, Envs H c0 c env a blk → blk k = b) (hat : c.w.heap[b]? = some (.cells vs.toArray T (0, 0))) (hv : repL c cs' vs') (hl : vs'.length = vs.length) :
    RelC H c0 { c with w := World.wrote c.w b (.cells vs'.toArray T (0, 0)) } (Ab.set env k (.box cs')) a := by
  obtain ⟨blk, h⟩ := hr.envs
  obtain rfl := hb blk h
  have hs := h.slot k
  rw [hk] at hs
  obtain ⟨e1, hN, hge, _⟩ := hs
  have hlt := hr.r.nb _ hN
  have hsh : (World.wrote c.w (blk k) (.cells vs'.toArray T (0, 0))).shape? (blk k) = c.w.shape? (blk k) := by
    simp [World.shape?, wrote_at hlt, hat, hl]
  have hext := Ext.wroteBox hN hsh
  refine ⟨hr.nsub, hr.nnew, hr.r.wroteBox hN hsh, ?_, ⟨blk, fun t => ?_, fun t t' cs1 cs2 ht ht' hbb => ?_⟩, hr.defers, hr.size⟩
  · -- what was there at the beginning
    have hge' : ∀ i, i < c0.w.heap.size → i ≠ blk k := fun i hi he => by omega
    refine ⟨⟨hr.evo.ext.g, by simpa [World.wrote] using hr.evo.ext.sz, fun i j hi hm => ?_, fun i hi => ?_, hr.evo.ext.tip⟩, fun i hi hf => ?_, hr.evo.os, hr.evo.output.trans ⟨rfl, rfl, fun _ => Nat.le_refl _⟩⟩
    · obtain ⟨h1, h2⟩ := hr.evo.ext.imm i j hi hm
      refine ⟨h1, ?_⟩
      rw [← h2]
      simp [World.cell?, wrote_ne (hge' i hi)]
    · rw [← hr.evo.ext.shape i hi]
      simp [World.shape?, wrote_ne (hge' i hi)]
    · rw [← hr.evo.free i hi hf]
      exact wrote_ne (hge' i hi)
  · by_cases htk : t = k
    · subst htk
      rw [set_same]
      exact ⟨e1, hN, hge, vs', T, repL_ext hext _ _ hv, wrote_at hlt⟩
    · rw [set_ne _ _ htk]
      have := h.slot t
      cases he : env t with
      | junk => trivial
      | undef => rw [he] at this; exact this
      | v x => rw [he] at this; exact rep_ext hext _ _ this
      | elt x off => rw [he] at this; obtain ⟨b, o, vx, h1, h2, h3⟩ := this; exact ⟨b, o, vx, rep_ext hext _ _ h1, h2.ext hext, h3⟩
      | box cs1 =>
        rw [he] at this
        obtain ⟨h1, h2, h3, vs1, T1, h4, h5⟩ := this
        have hne : blk t ≠ blk k := fun hh => htk (h.inj t k cs1 cs he hk hh)
        exact ⟨h1, h2, h3, vs1, T1, repL_ext hext _ _ h4, (wrote_ne hne).trans h5⟩
      | ref k' off => rw [he] at this; exact this
  · have f : ∀ t cs1, Ab.set env k (.box cs') t = .box cs1 → ∃ cs2, env t = .box cs2 := fun t cs1 ht => by
      by_cases htk : t = k
      · subst htk; exact ⟨cs, hk⟩
      · rw [set_ne _ _ htk] at ht; exact ⟨cs1, ht⟩
    obtain ⟨_, f1⟩ := f t cs1 ht
    obtain ⟨_, f2⟩ := f t' cs2 ht'
    exact h.inj t t' _ _ f1 f2 hbb

end Go.Proofs.YtdeondiigpidnaaGreat.Ab
end

section
set_option linter.unusedVariables false
set_option linter.unusedSimpArgs false
/- Soundness of operations: values, variables, loads, stores. -/
namespace Go.Proofs.YtdeondiigpidnaaGreat.Ab
open Go
set_option linter.unusedSectionVars false
variable [Fwd]
set_option linter.unusedVariables false
set_option linter.unusedSimpArgs false

/-- what comes behind an operation -/
def Next (H : Hints) (c0 : Ctx) (K : Cont) : Act → World → Prop := fun a w => ∃ env s, K env s ∧ Rel H c0 env s a w

section
variable {P : Program} {H : Hints} {c0 c : Ctx} {env : Env} {a : Act} {o : Oper} {K : Cont} {Q : Exit → Act → World → Prop}

theorem wp_value {next : Act → World → Prop} {w w' : World} {v : Value} (h : (execOp a.eval o).run P w = .ok (.value v) w') (hn : next (a.put o.dst v) w') : o.wp P a w next Q := by
  unfold Oper.wp; rw [h]; exact hn
theorem wp_skip' {next : Act → World → Prop} {w w' : World} (h : (execOp a.eval o).run P w = .ok .skip w') (hn : next (a.put o.dst undef) w') : o.wp P a w next Q := by
  unfold Oper.wp; rw [h]; exact hn

theorem ofSc_rep (c : Ctx) {v : Value} {x : V} (h : ofSc v = some x) : rep c x v := by
  have nil : SlRep c [] .full none 0 0 := ⟨rfl, Nat.le_refl _, fun _ => rfl, .inl rfl, ⟨0, by simp⟩, by simp, by simp⟩
  unfold ofSc at h
  split at h <;> first | (cases h; simp [rep]; done) | skip
  · cases h
    simp only [rep]
    exact ⟨[], none, 0, 0, by simp [repL], rfl, nil⟩
  · cases h

theorem ofL_rep (c : Ctx) : ∀ {vs : List Value} {l : List V}, ofL vs = some l → repL c l vs
  | [], l, h => by simp [ofL] at h; subst h; simp [repL]
  | v :: r, l, h => by
    unfold ofL at h
    split at h
    · rename_i x l' h1 h2
      cases h
      simp only [repL]
      exact ⟨v, r, rfl, ofSc_rep c h1, ofL_rep c h2⟩
    · cases h

theorem ofValue_rep (c : Ctx) {v : Value} {x : V} (h : ofValue v = some x) : rep c x v := by
  unfold ofValue at h
  split at h
  · rename_i cs
    split at h
    · rename_i l hl
      cases h
      simp only [rep]
      exact ⟨cs.toList, ofL_rep c hl, by simp⟩
    · cases h
  · exact ofSc_rep c h

theorem opnd_rep {x : Operand} {v : V} (hr : RelC H c0 c env a) (h : opnd env x = some v) : rep c v (a.eval x) := by
  cases x with
  | tmp t =>
    obtain ⟨blk, he⟩ := hr.envs
    have := he.slot t
    simp only [opnd] at h
    split at h
    · rename_i y hy
      cases h
      rw [hy] at this
      exact this
    · cases h
  | const u => exact ofValue_rep c h
  | func f =>
    simp only [opnd, Option.some.injEq] at h
    subst h
    simp only [rep]
    exact ⟨[], [], by simp [repL], by simp [repL], rfl⟩
  | global g => simp [opnd] at h

theorem opnds_rep (hr : RelC H c0 c env a) : ∀ {xs : List Operand} {vs : List V}, opnds env xs = some vs → repL c vs (xs.map a.eval)
  | [], vs, h => by simp [opnds] at h; subst h; simp [repL]
  | x :: r, vs, h => by
    unfold opnds at h
    split at h
    · rename_i y l h1 h2
      cases h
      simp only [repL, List.map_cons]
      exact ⟨_, _, rfl, opnd_rep hr h1, opnds_rep hr h2⟩
    · cases h

/-- a value comes out, nothing else happens -/
theorem next_out {d : Option Nat} {x : V} {v : Value} (hr : RelC H c0 c env a) (hx : rep c x v) (hk : K (put H env d (.v x)) c.s) : Next H c0 K (a.put d v) c.w :=
  ⟨_, _, hk, c, rfl, rfl, hr.put (x := .v x) hx⟩
theorem next_slot {d : Option Nat} {x : Slot} {v : Value} (hr : RelC H c0 c env a) (hx : slotOk c x v) (hk : K (put H env d x) c.s) : Next H c0 K (a.put d v) c.w :=
  ⟨_, _, hk, c, rfl, rfl, hr.put hx⟩

theorem get_some {α : Type} {o : Option α} {K : α → Prop} (h : get o K) : ∃ v, o = some v ∧ K v := by
  cases o with
  | none => exact h.elim
  | some v => exact ⟨v, rfl, h⟩

theorem gcond_bool {want : Bool} {g : V} {A B : Prop} (h : gcond want g A B) : ∃ b, g = .bool b ∧ (b = want → A) ∧ (b = !want → B) := by
  unfold gcond at h
  split at h
  · rename_i b
    refine ⟨b, rfl, ?_, ?_⟩
    · intro hb; subst hb; cases b <;> exact h
    · intro hb; subst hb; cases want <;> exact h
  · exact h.elim

theorem toVw_rep {b : Bool} {x : V} {v : Value} (h : rep c x v) : rep c (toVw b x) v := by
  unfold toVw
  split
  · simp only [rep] at h ⊢
    obtain ⟨vs, ad, n, cap, h1, rfl, h2⟩ := h
    simp only [repL] at h1
    subst h1
    have h3 := h2.len
    have h4 := h2.full rfl
    simp at h3
    subst h3; subst h4
    exact .inl ⟨trivial, ad, rfl⟩
  · exact h

theorem sound_move {x : Operand} {b : Bool} (ho : o.op = .move x ∨ o.op = .assign x) (hr : RelC H c0 c env a) (h : get (opnd env x) fun v => K (put H env o.dst (.v (toVw b v))) c.s) :
    o.wp P a c.w (Next H c0 K) Q := by
  obtain ⟨v, h1, h2⟩ := get_some h
  refine wp_value (v := a.eval x) (w' := c.w) ?_ (next_out hr (toVw_rep (opnd_rep hr h1)) h2)
  rcases ho with ho | ho <;> simp [execOp, ho]

theorem sound_pick {x y z : Operand} (ho : o.op = .pick x y z) (hr : RelC H c0 c env a)
    (h : get (opnd env x) fun t => gcond true t (get (opnd env y) fun v => K (put H env o.dst (.v v)) c.s) (get (opnd env z) fun v => K (put H env o.dst (.v v)) c.s)) :
    o.wp P a c.w (Next H c0 K) Q := by
  obtain ⟨t, h1, h2⟩ := get_some h
  obtain ⟨b, rfl, h3, h4⟩ := gcond_bool h2
  have hb := opnd_rep hr h1
  simp only [rep] at hb
  cases b with
  | true =>
    obtain ⟨v, h5, h6⟩ := get_some (h3 rfl)
    refine wp_value (v := a.eval y) (w' := c.w) ?_ (next_out hr (opnd_rep hr h5) h6)
    simp [execOp, ho, hb, asBool]
  | false =>
    obtain ⟨v, h5, h6⟩ := get_some (h4 rfl)
    refine wp_value (v := a.eval z) (w' := c.w) ?_ (next_out hr (opnd_rep hr h5) h6)
    simp [execOp, ho, hb, asBool]

theorem rep_cells {c : Ctx} {x : V} {v : Value} (h : rep c x v) : repL c x.cells v.cells.toList := by
  have one : ∀ {x : V} {v : Value}, rep c x v → v.cells = #[v] → x.cells = [x] → repL c x.cells v.cells.toList := fun h h1 h2 => by
    rw [h1, h2]; simp only [repL]; exact ⟨_, [], rfl, h, rfl⟩
  cases x with
  | agg l =>
    simp only [rep] at h
    obtain ⟨vs, h1, rfl⟩ := h
    simpa [V.cells, Value.cells] using h1
  | bool b => exact one h (by simp only [rep] at h; subst h; rfl) rfl
  | int k n => exact one h (by simp only [rep] at h; subst h; rfl) rfl
  | str s => exact one h (by simp only [rep] at h; subst h; rfl) rfl
  | nilp => exact one h (by simp only [rep] at h; subst h; rfl) rfl
  | ptr i j => exact one h (by simp only [rep] at h; obtain ⟨_, _, _, rfl⟩ := h; rfl) rfl
  | sl l k => exact one h (by simp only [rep] at h; obtain ⟨_, _, _, _, _, rfl, _⟩ := h; rfl) rfl
  | vw i s f l => exact one h (by simp only [rep] at h; rcases h with ⟨_, _, rfl⟩ | ⟨_, _, _, _, _, rfl, _⟩ <;> rfl) rfl
  | map i => exact one h (by simp only [rep] at h; obtain ⟨_, _, _, rfl⟩ := h; rfl) rfl
  | nilmap => exact one h (by simp only [rep] at h; subst h; rfl) rfl
  | fn f x y => exact one h (by simp only [rep] at h; obtain ⟨_, _, _, _, rfl⟩ := h; rfl) rfl
  | nilfn => exact one h (by simp only [rep] at h; subst h; rfl) rfl
  | iface t y => exact one h (by simp only [rep] at h; obtain ⟨_, _, rfl⟩ := h; rfl) rfl
  | nilif => exact one h (by simp only [rep] at h; subst h; rfl) rfl
  | tup l => exact one h (by simp only [rep] at h; obtain ⟨_, _, rfl⟩ := h; rfl) rfl

theorem rep_one {c : Ctx} {x : V} {v : Value} (h : rep c x v) (h1 : x.one = true) : v.oneCell' = true := by
  cases x with
  | agg l => simp [V.one] at h1
  | tup l => simp [V.one] at h1
  | bool b => simp only [rep] at h; subst h; rfl
  | int k n => simp only [rep] at h; subst h; rfl
  | str s => simp only [rep] at h; subst h; rfl
  | nilp => simp only [rep] at h; subst h; rfl
  | ptr i j => simp only [rep] at h; obtain ⟨_, _, _, rfl⟩ := h; rfl
  | sl l k => simp only [rep] at h; obtain ⟨_, _, _, _, _, rfl, _⟩ := h; rfl
  | vw i s f l => simp only [rep] at h; rcases h with ⟨_, _, rfl⟩ | ⟨_, _, _, _, _, rfl, _⟩ <;> rfl
  | map i => simp only [rep] at h; obtain ⟨_, _, _, rfl⟩ := h; rfl
  | nilmap => simp only [rep] at h; subst h; rfl
  | fn f x y => simp only [rep] at h; obtain ⟨_, _, _, _, rfl⟩ := h; rfl
  | nilfn => simp only [rep] at h; subst h; rfl
  | iface t y => simp only [rep] at h; obtain ⟨_, _, rfl⟩ := h; rfl
  | nilif => simp only [rep] at h; subst h; rfl

theorem repL_ones {c : Ctx} : ∀ {l : List V} {vs : List Value}, repL c l vs → l.all V.one = true → ∀ v ∈ vs, v.oneCell' = true
  | [], vs, h, _ => by simp [repL] at h; simp [h]
  | x :: r, vs, h, ha => by
    simp only [repL] at h
    obtain ⟨y, ys, rfl, h1, h2⟩ := h
    simp at ha
    intro v hv
    rcases List.mem_cons.1 hv with rfl | hv
    · exact rep_one h1 ha.1
    · exact repL_ones h2 (by simpa using ha.2) v hv

theorem repL_get {c : Ctx} : ∀ {l : List V} {vs : List Value} {i : Nat} {x : V}, repL c l vs → l[i]? = some x → ∃ v, vs[i]? = some v ∧ rep c x v
  | [], vs, i, x, h, hi => by simp at hi
  | y :: r, vs, i, x, h, hi => by
    simp only [repL] at h
    obtain ⟨v, ys, rfl, h1, h2⟩ := h
    cases i with
    | zero => simp at hi; subst hi; exact ⟨v, by simp, h1⟩
    | succ i => simp at hi; obtain ⟨u, h3, h4⟩ := repL_get h2 hi; exact ⟨u, by simpa using h3, h4⟩

theorem repL_drop {c : Ctx} : ∀ {l : List V} {vs : List Value} (n : Nat), repL c l vs → repL c (l.drop n) (vs.drop n)
  | [], vs, n, h => by simp [repL] at h; simp [h, repL]
  | y :: r, vs, n, h => by
    cases n with
    | zero => simpa using h
    | succ n => simp only [repL] at h; obtain ⟨v, ys, rfl, h1, h2⟩ := h; simpa using repL_drop n h2

theorem repL_take {c : Ctx} : ∀ {l : List V} {vs : List Value} (n : Nat), repL c l vs → repL c (l.take n) (vs.take n)
  | [], vs, n, h => by simp [repL] at h; simp [h, repL]
  | y :: r, vs, n, h => by
    cases n with
    | zero => simp [repL]
    | succ n =>
      simp only [repL] at h; obtain ⟨v, ys, rfl, h1, h2⟩ := h
      simp only [List.take_succ_cons, repL]
      exact ⟨v, _, rfl, h1, repL_take n h2⟩

theorem repL_append {c : Ctx} : ∀ {l l' : List V} {vs vs' : List Value}, repL c l vs → repL c l' vs' → repL c (l ++ l') (vs ++ vs')
  | [], l', vs, vs', h, h' => by simp [repL] at h; simpa [h] using h'
  | y :: r, l', vs, vs', h, h' => by
    simp only [repL] at h; obtain ⟨v, ys, rfl, h1, h2⟩ := h
    simp only [List.cons_append, repL]
    exact ⟨v, _, rfl, h1, repL_append h2 h'⟩

/-- a new variable -/
theorem next_newVar {cs : List V} {vs : List Value} {T : TypeId} (hr : RelC H c0 c env a) (hv : repL c cs vs) (h : newVar H env o.dst cs c.s K) :
    Next H c0 K (a.put o.dst (.pointer (some ⟨c.w.heap.size, 0, none⟩))) (World.pushed c.w (.cells vs.toArray T)) := by
  unfold newVar newVarR contOf at h
  split at h
  · exact h.elim
  · rename_i d hd
    cases hb : Nat.blt d H.n with
    | false => simp [hb] at h
    | true =>
      simp only [hb, cond_true] at h
      cases he : H.esc d with
      | true =>
        simp only [he, cond_true] at h
        obtain ⟨id, g1, s1⟩ := hr.r.fresh
        have hst : Step c0 c (c.newObj id 0 (.cells cs) (.cells vs.toArray T)) := Step.of_evo hr.r (Evo.newObj hr.r g1)
          (R.newObj hr.r g1 ⟨rfl, vs, T, repL_ext (Ext.newObj hr.r g1) _ _ hv, by simpa [Ctx.newObj] using push_at⟩) rfl
        refine ⟨_, _, h id s1, c.newObj id 0 (.cells cs) (.cells vs.toArray T), rfl, rfl, ?_⟩
        exact (hr.step hst).put (x := .v (.ptr id 0)) (by simp only [slotOk, rep]; exact ⟨c.w.heap.size, 0, by simp [Ctx.newObj], rfl⟩)
      | false =>
        simp only [he, cond_false] at h
        exact ⟨_, _, h, c.newBox (.cells vs.toArray T), rfl, rfl, hd ▸ hr.newBox (blt_true.1 hb) hv⟩

theorem zeroT_run {T : TypeId} {z : V} (h : zeroT P T = some z) : ∃ zv, ofValue zv = some z ∧ ∀ w, (zeroValue T).run P w = .ok zv w := by
  unfold zeroT at h
  split at h
  · rename_i i hi
    split at h
    · rename_i zv hz
      exact ⟨zv, h, fun w => by simp [zeroValue, typeInfo, hi, hz]⟩
    · cases h
  · cases h

theorem sound_alloc {T : TypeId} (ho : o.op = .alloc T) (hr : RelC H c0 c env a) (h : get (zeroT P T) fun z => newVar H env o.dst z.cells c.s K) :
    o.wp P a c.w (Next H c0 K) Q := by
  obtain ⟨z, h1, h2⟩ := get_some h
  obtain ⟨zv, hz, hrun⟩ := zeroT_run h1
  refine wp_value ?_ (next_newVar (T := T) hr (rep_cells (ofValue_rep c hz)) h2)
  simp [execOp, ho, Instr.alloc, hrun, Go.newVar, newRow, World.pushed]

theorem sound_box {T : TypeId} {x : Operand} (ho : o.op = .box T x) (hr : RelC H c0 c env a)
    (h : get (sizeT P T) fun n => get (opnd env x) fun x => fits x n ∧ newVar H env o.dst x.cells c.s K) : o.wp P a c.w (Next H c0 K) Q := by
  obtain ⟨n, h1, h2⟩ := get_some h
  obtain ⟨v, h3, h4, h5⟩ := get_some h2
  refine wp_value ?_ (next_newVar (T := T) hr (rep_cells (opnd_rep hr h3)) h5)
  simp [execOp, ho, Instr.box, Go.newVar, newRow, World.pushed]

end
end Go.Proofs.YtdeondiigpidnaaGreat.Ab
end

section
set_option linter.unusedVariables false
set_option linter.unusedSimpArgs false
/- Soundness of operations: loads, stores, addresses. -/
namespace Go.Proofs.YtdeondiigpidnaaGreat.Ab
open Go
set_option linter.unusedSectionVars false
variable [Fwd]
set_option linter.unusedVariables false
set_option linter.unusedSimpArgs false

section
variable {P : Program} {H : Hints} {c0 c : Ctx} {env : Env} {a : Act} {o : Oper} {K : Cont} {Q : Exit → Act → World → Prop}

theorem sizeT_info {T : TypeId} {n : Nat} (h : sizeT P T = some n) : ∃ i, P.info? T = some i ∧ i.size = n := by
  unfold sizeT at h
  split at h
  · rename_i i hi; cases h; exact ⟨i, hi, rfl⟩
  · cases h
theorem run_sizeT {T : TypeId} {n : Nat} (h : sizeT P T = some n) (w : World) : (sizeOf T).run P w = .ok n w := by
  obtain ⟨i, hi, rfl⟩ := sizeT_info h
  simp [sizeOf, typeInfo, hi]

theorem add_mid (b o j : Nat) : (⟨b, o, none⟩ : Addr).add j = ⟨b, o + j, none⟩ := by unfold Addr.add; split <;> simp_all

theorem tk_sc {T : TypeId} (h : tk P T = some .sc) (w : World) : (isAgg T).run P w = .ok false w := by
  unfold tk at h
  unfold isAgg
  cases hu : P.underlying T with
  | none => simp [hu] at h
  | some d =>
    rw [hu] at h
    cases d <;> first | (simp at h; split at h <;> cases h; done) | simp [run_underlying hu]
theorem tk_ag {T : TypeId} {n : Nat} (h : tk P T = some (.ag n)) (w : World) : (isAgg T).run P w = .ok true w ∧ sizeT P T = some n := by
  unfold tk at h
  unfold isAgg
  cases hu : P.underlying T with
  | none => simp [hu] at h
  | some d =>
    rw [hu] at h
    cases d <;> first
      | (simp at h; done)
      | (simp only at h; split at h
         · rename_i m hm; cases h; exact ⟨by simp [run_underlying hu], hm⟩
         · cases h)

/-- cells that lie in a row read as a value -/
theorem run_rd {T : TypeId} {k : TK} {cs : List V} {vs : List Value} {off b e : Nat} {x : V} (hk : tk P T = some k) (hx : rd k cs off = some x) (hv : repL c cs vs)
    (hc : ∀ i v, vs[i]? = some v → c.w.cell? ⟨b, e + i, none⟩ = some v) :
    ∃ v, (loadVar T ⟨b, e + off, none⟩).run P c.w = .ok v c.w ∧ rep c x v := by
  cases k with
  | sc =>
    simp only [rd] at hx
    split at hx
    · rename_i y hy
      split at hx
      · cases hx
        obtain ⟨v, h1, h2⟩ := repL_get hv hy
        refine ⟨v, ?_, h2⟩
        simp [loadVar, tk_sc hk, hc _ _ h1]
      · cases hx
    · cases hx
  | ag n =>
    obtain ⟨h1, h2⟩ := tk_ag hk c.w
    simp only [rd] at hx
    split at hx
    · rename_i hle
      cases hx
      have hlen := repL_length hv
      refine ⟨.agg ((vs.drop off).take n).toArray, ?_, ?_⟩
      · have hl : ((vs.drop off).take n).length = n := by simp; omega
        have := run_loadCells_list (P := P) c.w ⟨b, e + off, none⟩ ((vs.drop off).take n) (fun j v hj => by
          rw [add_mid, Nat.add_assoc]
          refine hc _ _ ?_
          rw [List.getElem?_take] at hj
          split at hj
          · simpa using hj
          · cases hj)
        rw [hl] at this
        simp [loadVar, h1, run_sizeT h2, this]
      · simp only [rep]
        exact ⟨_, repL_take n (repL_drop off hv), rfl⟩
    · cases hx

theorem objCells_rep {ob : Obj} {cs : List V} {b e : Nat} (h : objCells ob = some cs) (hr : objRep c b e ob) :
    ∃ vs, repL c cs vs ∧ ∀ i v, vs[i]? = some v → c.w.cell? ⟨b, e + i, none⟩ = some v := by
  cases ob with
  | cells xs =>
    simp [objCells] at h; subst h
    obtain ⟨rfl, vs, T, h1, h2⟩ := hr
    exact ⟨vs, h1, fun i v hi => by simp [World.cell?, h2, hi]⟩
  | arr sz l =>
    simp [objCells] at h; subst h
    obtain ⟨vs, k, T, h1, h2, h3, h4⟩ := hr
    refine ⟨flat vs, ?_, fun i v hi => by simp [World.cell?, h3, h4 i v hi]⟩
    have : ∀ {l : List V} {vs : List Value}, repL c l vs → repL c (l.flatMap V.cells) (flat vs) := by
      intro l
      induction l with
      | nil => intro vs h; simp [repL] at h; simp [h, flat, repL]
      | cons x r ih =>
        intro vs h
        simp only [repL] at h
        obtain ⟨v, ys, rfl, h5, h6⟩ := h
        simpa [flat] using repL_append (rep_cells h5) (ih h6)
    exact this h1
  | map l => simp [objCells] at h
  | mapr l => simp [objCells] at h
  | tip l => simp [objCells] at h
  | iter l r q => simp [objCells] at h

/-- a load through a pointer into the store -/
theorem run_aload {T : TypeId} {k : TK} {p : V} {pv : Value} {K' : V → Prop} (hR : R c) (hk : tk P T = some k) (hp : rep c p pv) (h : aload k p c.s K') :
    ∃ x v, (Instr.loadAt T pv).run P c.w = .ok v c.w ∧ rep c x v ∧ K' x := by
  obtain ⟨id, off, ob, cs, rfl, h1, h2, x, h3, h4⟩ := h
  simp only [rep] at hp
  obtain ⟨b, e, g1, rfl⟩ := hp
  obtain ⟨b', e', g2, _, hob⟩ := hR.obj id ob h1
  rw [g1] at g2; cases g2
  obtain ⟨vs, h5, h6⟩ := objCells_rep h2 hob
  obtain ⟨v, h7, h8⟩ := run_rd hk h3 h5 h6
  exact ⟨x, v, by simp [Instr.loadAt, Instr.sureAddr, h7], h8, h4⟩

theorem boxAt_cells {b : Nat} {cs : List V} (h : boxAt c0 c b cs) : ∃ vs, repL c cs vs ∧ ∀ i v, vs[i]? = some v → c.w.cell? ⟨b, 0 + i, none⟩ = some v := by
  obtain ⟨_, _, vs, T, h1, h2⟩ := h
  exact ⟨vs, h1, fun i v hi => by simp [World.cell?, h2, hi]⟩

theorem slotOf_rep {x : Operand} (hr : RelC H c0 c env a) {blk : Nat → Nat} (he : Envs H c0 c env a blk) :
    match slotOf env x with
    | .box cs => ∃ t, x = .tmp t ∧ env t = .box cs ∧ a.eval x = .pointer (some ⟨blk t, 0, none⟩) ∧ boxAt c0 c (blk t) cs
    | .ref k off => a.eval x = .pointer (some ⟨blk k, off, none⟩)
    | .v y => rep c y (a.eval x)
    | .elt y off => ∃ b o vx, rep c y vx ∧ placed c b o vx.cells.toList ∧ a.eval x = .pointer (some ⟨b, o + off, none⟩)
    | _ => True := by
  cases x with
  | tmp t =>
    have := he.slot t
    simp only [slotOf]
    cases ht : env t with
    | box cs => rw [ht] at this; exact ⟨t, rfl, ht, this.1, this.2⟩
    | ref k off => rw [ht] at this; exact this.1
    | v y => rw [ht] at this; exact this
    | elt y off => rw [ht] at this; exact this
    | junk => trivial
    | undef => trivial
  | const v =>
    simp only [slotOf]
    cases h : opnd env (.const v) with
    | none => trivial
    | some y => exact opnd_rep hr h
  | func f =>
    simp only [slotOf]
    cases h : opnd env (.func f) with
    | none => trivial
    | some y => exact opnd_rep hr h
  | global g =>
    simp only [slotOf, opnd]

theorem sound_load {T : TypeId} {x : Operand} {lc : Bool} (ho : o.op = .load T x) (hr : RelC H c0 c env a)
    (h : get (tk P T) fun k => match slotOf env x with
      | .box cs => must (rd k cs 0) fun v => K (put H env o.dst (.v v)) c.s
      | .ref b off => match env b with | .box cs => must (rd k cs off) fun v => K (put H env o.dst (.v v)) c.s | _ => False
      | .elt x off => must (rd k x.cells off) fun v => K (put H env o.dst (.v v)) c.s
      | .v p => bif lc then False else aload k p c.s fun v => K (put H env o.dst (.v v)) c.s
      | _ => False) : o.wp P a c.w (Next H c0 K) Q := by
  obtain ⟨k, hk, h⟩ := get_some h
  obtain ⟨blk, he⟩ := hr.envs
  have hs := slotOf_rep (x := x) hr he
  have fin : ∀ {y : V} {v : Value}, (Instr.loadAt T (a.eval x)).run P c.w = .ok v c.w → rep c y v → K (put H env o.dst (.v y)) c.s → o.wp P a c.w (Next H c0 K) Q := by
    intro y v h1 h2 h3
    refine wp_value (v := v) (w' := c.w) ?_ (next_out hr h2 h3)
    simp [execOp, ho, h1]
  cases hx : slotOf env x with
  | box cs =>
    rw [hx] at hs h
    obtain ⟨t, _, _, hev, hb⟩ := hs
    obtain ⟨y, h1, h2⟩ := h
    obtain ⟨vs, h3, h4⟩ := boxAt_cells hb
    obtain ⟨v, h5, h6⟩ := run_rd hk h1 h3 h4
    exact fin (by rw [hev]; simpa [Instr.loadAt, Instr.sureAddr] using h5) h6 h2
  | ref b off =>
    rw [hx] at hs h
    have hb := he.slot b
    cases hbx : env b with
    | box cs =>
      simp only [hbx] at h
      rw [hbx] at hb
      obtain ⟨y, h1, h2⟩ := h
      obtain ⟨vs, h3, h4⟩ := boxAt_cells hb.2
      obtain ⟨v, h5, h6⟩ := run_rd hk h1 h3 h4
      exact fin (by rw [hs]; simpa [Instr.loadAt, Instr.sureAddr] using h5) h6 h2
    | _ => simp only [hbx] at h
  | v p =>
    rw [hx] at hs h
    cases lc with
    | true => exact h.elim
    | false =>
      obtain ⟨y, v, h1, h2, h3⟩ := run_aload hr.r hk hs h
      exact fin h1 h2 h3
  | elt y off =>
    rw [hx] at hs h
    obtain ⟨b, o', vx, h1, h2, hev⟩ := hs
    obtain ⟨z, h3, h4⟩ := h
    obtain ⟨v, h5, h6⟩ := run_rd hk h3 (rep_cells h1) (fun i v hi => (h2 i v hi).1)
    exact fin (by rw [hev]; simpa [Instr.loadAt, Instr.sureAddr] using h5) h6 h4
  | junk => rw [hx] at h; exact h.elim
  | undef => rw [hx] at h; exact h.elim

/-- cells that are written -/
theorem wr_rep {cs xs : List V} {vs ys : List Value} {off : Nat} (h : repL c cs vs) (h' : repL c xs ys) : repL c (wr cs off xs) (vs.take off ++ ys ++ vs.drop (off + ys.length)) := by
  unfold wr
  rw [repL_length h']
  exact repL_append (repL_append (repL_take off h) h') (repL_drop _ h)

theorem setRow_wrote {w : World} {g : Nat} {old cs : Array Value} {t : TypeId} {fr : Nat × Nat} (hg : w.heap[g]? = some (.cells old t fr)) :
    w.setRow g cs = World.wrote w g (.cells cs t fr) := by
  unfold World.setRow World.wrote
  congr 1
  apply Array.ext_getElem?
  intro i
  obtain ⟨hlt, hv⟩ := Array.getElem?_eq_some_iff.1 hg
  by_cases hi : i = g
  · subst hi
    rw [Array.getElem?_setIfInBounds_self_of_lt hlt, Array.getElem?_modify, if_pos rfl, hg]
    rfl
  · simp [Array.getElem?_modify, Array.getElem?_setIfInBounds_ne (Ne.symm hi), Ne.symm hi]

theorem run_storeVar {T : TypeId} {x : V} {xv : Value} {b off n : Nat} {vs : List Value} {U : TypeId} (hx : rep c x xv) (hn : sizeT P T = some n) (hf : fits x n)
    (hat : c.w.heap[b]? = some (.cells vs.toArray U (0, 0))) (hle : off + n ≤ vs.length) :
    (storeVar T ⟨b, off, none⟩ xv).run P c.w = .ok () (World.wrote c.w b (.cells (vs.take off ++ xv.cells.toList ++ vs.drop (off + xv.cells.toList.length)).toArray U (0, 0))) := by
  have hcl := repL_length (rep_cells hx)
  rw [hf.1] at hcl
  have h1 := run_storeCells_at (P := P) b off U xv.cells.toList 0 vs.toArray c.w hat (by simp at hcl ⊢; omega) (repL_ones (rep_cells hx) hf.2)
  have hsz : xv.cells.size = n := by simpa using hcl
  simp only [storeVar, Sem.run_bind, run_sizeT hn, Result.andThen_ok, hsz, ne_eq, not_true_eq_false, if_false]
  rw [setRow_wrote hat] at h1
  simpa using h1

/-- a variable of the function's own is written, somewhere -/
theorem wp_storeBox {T : TypeId} {x : V} {y z : Operand} {k off n : Nat} {cs : List V} (hr : RelC H c0 c env a) (ho : o.op = .store T y z)
    (hx : rep c x (a.eval z)) (hn : sizeT P T = some n) (hf : fits x n) (hk : env k = .box cs) (hle : off + n ≤ cs.length)
    (hy : ∀ blk, Envs H c0 c env a blk → a.eval y = .pointer (some ⟨blk k, off, none⟩))
    (h : K (put H (set env k (.box (wr cs off x.cells))) o.dst .undef) c.s) : o.wp P a c.w (Next H c0 K) Q := by
  obtain ⟨blk, he⟩ := hr.envs
  have hb := he.slot k
  rw [hk] at hb
  obtain ⟨_, hN, hge, vs, U, h1, h2⟩ := hb
  have hlen := repL_length h1
  have hrun := run_storeVar (P := P) (off := off) hx hn hf h2 (by omega)
  have hxl := repL_length (rep_cells hx)
  rw [hf.1] at hxl
  refine wp_skip' (w' := World.wrote c.w (blk k) (.cells (vs.take off ++ (a.eval z).cells.toList ++ vs.drop (off + (a.eval z).cells.toList.length)).toArray U (0, 0))) ?_ ?_
  · simp only [execOp, ho, hy blk he, Instr.storeAt, Instr.sureAddr, Sem.run_bind, Sem.run_pure, Result.andThen_ok, hrun]
  · refine ⟨_, _, h, { c with w := World.wrote c.w (blk k) (.cells (vs.take off ++ (a.eval z).cells.toList ++ vs.drop (off + (a.eval z).cells.toList.length)).toArray U (0, 0)) }, rfl, rfl,
      (hr.wroteBox hk (fun blk' he' => ?_) h2 (wr_rep h1 (rep_cells hx)) ?_).put (x := .undef) rfl⟩
    · have h3 := (he'.slot k); rw [hk] at h3
      have h4 := (he.slot k); rw [hk] at h4
      have := h3.1.symm.trans h4.1
      simpa using this
    · simp at hxl ⊢
      omega

theorem rep_cells1 {x : V} {v : Value} (h : rep c x v) (hx : ∀ l, x ≠ .agg l) : v.cells = #[v] ∧ x.cells = [x] := by
  cases x with
  | agg l => exact absurd rfl (hx l)
  | bool b => simp only [rep] at h; subst h; exact ⟨rfl, rfl⟩
  | int k n => simp only [rep] at h; subst h; exact ⟨rfl, rfl⟩
  | str s => simp only [rep] at h; subst h; exact ⟨rfl, rfl⟩
  | nilp => simp only [rep] at h; subst h; exact ⟨rfl, rfl⟩
  | ptr i j => simp only [rep] at h; obtain ⟨_, _, _, rfl⟩ := h; exact ⟨rfl, rfl⟩
  | sl l k => simp only [rep] at h; obtain ⟨_, _, _, _, _, rfl, _⟩ := h; exact ⟨rfl, rfl⟩
  | vw i s f l => simp only [rep] at h; rcases h with ⟨_, _, rfl⟩ | ⟨_, _, _, _, _, rfl, _⟩ <;> exact ⟨rfl, rfl⟩
  | map i => simp only [rep] at h; obtain ⟨_, _, _, rfl⟩ := h; exact ⟨rfl, rfl⟩
  | nilmap => simp only [rep] at h; subst h; exact ⟨rfl, rfl⟩
  | fn f x y => simp only [rep] at h; obtain ⟨_, _, _, _, rfl⟩ := h; exact ⟨rfl, rfl⟩
  | nilfn => simp only [rep] at h; subst h; exact ⟨rfl, rfl⟩
  | iface t y => simp only [rep] at h; obtain ⟨_, _, rfl⟩ := h; exact ⟨rfl, rfl⟩
  | nilif => simp only [rep] at h; subst h; exact ⟨rfl, rfl⟩
  | tup l => simp only [rep] at h; obtain ⟨_, _, rfl⟩ := h; exact ⟨rfl, rfl⟩

theorem repL_split {c : Ctx} : ∀ {l l' : List V} {vs : List Value}, repL c (l ++ l') vs → ∃ a b, vs = a ++ b ∧ repL c l a ∧ repL c l' b
  | [], l', vs, h => ⟨[], vs, rfl, by simp [repL], h⟩
  | x :: r, l', vs, h => by
    simp only [List.cons_append, repL] at h
    obtain ⟨v, ys, rfl, h1, h2⟩ := h
    obtain ⟨a, b, rfl, h3, h4⟩ := repL_split h2
    exact ⟨v :: a, b, rfl, by simp only [repL]; exact ⟨v, a, rfl, h1, h3⟩, h4⟩

/-- cells that make a row -/
theorem unflat {c : Ctx} : ∀ {l : List V} {cs : List Value}, repL c (l.flatMap V.cells) cs → ∃ vs, repL c l vs ∧ flat vs = cs
  | [], cs, h => by simp [repL] at h; subst h; exact ⟨[], by simp [repL], rfl⟩
  | x :: r, cs, h => by
    rw [List.flatMap_cons] at h
    obtain ⟨a, b, rfl, h1, h2⟩ := repL_split h
    obtain ⟨vs, h3, h4⟩ := unflat h2
    cases x with
    | agg l =>
      refine ⟨.agg a.toArray :: vs, ?_, ?_⟩
      · simp only [repL, rep]; exact ⟨_, vs, rfl, ⟨a, h1, rfl⟩, h3⟩
      · simp only [flat, List.flatMap_cons] at h4 ⊢; rw [h4]; simp [Value.cells]
    | _ =>
      simp only [V.cells, repL] at h1
      obtain ⟨v, ys, rfl, h5, rfl⟩ := h1
      refine ⟨v :: vs, by simp only [repL]; exact ⟨v, vs, rfl, h5, h3⟩, ?_⟩
      have h6 := (rep_cells1 h5 (by simp)).1
      simp only [flat, List.flatMap_cons] at h4 ⊢; rw [h4, h6]

theorem flat_rep {c : Ctx} : ∀ {l : List V} {vs : List Value}, repL c l vs → repL c (l.flatMap V.cells) (flat vs)
  | [], vs, h => by simp [repL] at h; simp [h, flat, repL]
  | x :: r, vs, h => by
    simp only [repL] at h
    obtain ⟨v, ys, rfl, h5, h6⟩ := h
    simpa [flat] using repL_append (rep_cells h5) (flat_rep h6)

theorem wr_whole {cs xs : List V} (h : xs.length = cs.length) : wr cs 0 xs = xs := by
  simp [wr, h]

theorem sound_store {T : TypeId} {y z : Operand} (ho : o.op = .store T y z) (hr : RelC H c0 c env a)
    (h : get (sizeT P T) fun n => get (opnd env z) fun x => storeOp H o n x y env c.s K) : o.wp P a c.w (Next H c0 K) Q := by
  obtain ⟨n, hn, h⟩ := get_some h
  obtain ⟨x, hx, h⟩ := get_some h
  unfold storeOp storeOpR contOf at h
  have hxr := opnd_rep hr hx
  have hs := fun blk he => slotOf_rep (x := y) (blk := blk) hr he
  cases hy : slotOf env y with
  | box cs =>
    have hb : ∃ t, y = .tmp t := by
      obtain ⟨blk, he⟩ := hr.envs
      have := hs blk he
      rw [hy] at this
      obtain ⟨t, ht, _⟩ := this
      exact ⟨t, ht⟩
    obtain ⟨t, rfl⟩ := hb
    rw [hy] at h
    simp only at h
    obtain ⟨h1, h2, h3⟩ := h
    refine wp_storeBox (k := t) (off := 0) hr ho hxr hn h1 hy (by have := h1.1; omega) (fun blk he => ?_) ?_
    · have := hs blk he
      rw [hy] at this
      obtain ⟨t', ht', _, h4, _⟩ := this
      cases ht'
      exact h4
    · rw [wr_whole h2]; exact h3
  | ref b off =>
    rw [hy] at h
    simp only at h
    cases hri : refIn H y b with
    | false => rw [hri] at h; exact h.elim
    | true =>
    rw [hri, cond_true] at h
    cases hb : env b with
    | box cs =>
      simp only [hb] at h
      obtain ⟨h1, h2, h3⟩ := h
      refine wp_storeBox (k := b) (off := off) hr ho hxr hn h1 hb h2 (fun blk he => ?_) h3
      have := hs blk he
      rw [hy] at this
      exact this
    | _ => simp only [hb] at h
  | v p =>
    rw [hy] at h
    simp only at h
    obtain ⟨blk, he⟩ := hr.envs
    have hp := hs blk he
    rw [hy] at hp
    obtain ⟨id, off, rfl, h2, h⟩ := h
    simp only [rep] at hp
    obtain ⟨b, e, g1, hev⟩ := hp
    rcases h with ⟨cs, h1, h3, h4⟩ | ⟨sz, l, l', h1, h0, h3, h7, h8, h4⟩
    rotate_left
    · obtain ⟨b', e', g2, _, hob⟩ := hr.r.obj id _ h1
      rw [g1] at g2; cases g2
      obtain ⟨vs, kc, U, h5, h5z, h6, h6c⟩ := hob
      have hfr := flat_rep h5
      have hlen := repL_length hfr
      have hxl := repL_length (rep_cells hxr)
      rw [h2.1] at hxl
      have hroom : e + (flat vs).length ≤ kc.size := by
        have := h6c ((flat vs).length - 1) _ (List.getElem?_eq_getElem (by omega))
        have := (Array.getElem?_eq_some_iff.1 this).1
        omega
      have h6' : c.w.heap[b]? = some (.cells kc.toList.toArray U (0, 0)) := by simpa using h6
      have hrun := run_storeVar (P := P) (off := e + off) hxr hn h2 h6' (by simp; omega)
      have hlt := hr.r.gb id b e g1
      let nc : List Value := kc.toList.take (e + off) ++ (a.eval z).cells.toList ++ kc.toList.drop (e + off + (a.eval z).cells.toList.length)
      have hsh : (World.wrote c.w b (.cells nc.toArray U (0, 0))).shape? b = c.w.shape? b := by
        simp only [World.shape?, wrote_at hlt, h6, nc]
        simp at hxl ⊢
        omega
      have hext := Ext.wrote (o' := .arr sz l') g1 h1 rfl rfl hsh
      have hnew := repL_ext hext _ _ (wr_rep (off := off) hfr (rep_cells hxr))
      rw [← h7] at hnew
      obtain ⟨vs', h9, h10⟩ := unflat hnew
      have hsizes : ∀ v ∈ vs', v.cells.size = sz := by
        intro v hv
        obtain ⟨i, hi⟩ := List.getElem?_of_mem hv
        have hl9 := repL_length h9
        have hlt9 : i < l'.length := by have := (List.getElem?_eq_some_iff.1 hi).1; omega
        obtain ⟨u, hu1, hu2⟩ := repL_get h9 (List.getElem?_eq_getElem hlt9)
        rw [hi] at hu1; cases hu1
        have := repL_length (rep_cells hu2)
        rw [h8 _ (List.getElem_mem hlt9)] at this
        simpa using this
      have hst : Step c0 c (c.wrote id b (.arr sz l') (.cells nc.toArray U (0, 0))) :=
        Step.of_evo hr.r (Evo.wrote g1 h1 rfl rfl hsh) (R.wrote hr.r g1 h1 rfl rfl hsh ⟨vs', nc.toArray, U, h9, hsizes, wrote_at hlt, fun i v hi => by
          rw [h10] at hi
          have hxs : (a.eval z).cells.toList.length = n := hxl
          simp only [nc, List.getElem?_toArray]
          have hkl : kc.toList.length = kc.size := by simp
          by_cases h11 : i < off
          · rw [List.append_assoc, List.getElem?_append_left (by simp; omega), List.getElem?_take]
            rw [List.append_assoc, List.getElem?_append_left (by simp; omega), List.getElem?_take, if_pos h11] at hi
            rw [if_pos (by omega)]
            simpa using h6c i v hi
          · by_cases h12 : i < off + n
            · rw [List.append_assoc, List.getElem?_append_right (by simp; omega), List.getElem?_append_left (by simp at hxs ⊢; omega)]
              rw [List.append_assoc, List.getElem?_append_right (by simp; omega), List.getElem?_append_left (by simp at hxs ⊢; omega)] at hi
              rw [← hi]; congr 1; simp; omega
            · rw [List.getElem?_append_right (by simp at hxs ⊢; omega), List.getElem?_drop]
              rw [List.getElem?_append_right (by simp at hxs ⊢; omega), List.getElem?_drop] at hi
              have h13 := h6c _ v hi
              rw [← h13, ← Array.getElem?_toList]
              congr 1
              simp at hxs ⊢
              omega⟩) rfl
      refine wp_skip' (w' := World.wrote c.w b (.cells nc.toArray U (0, 0))) ?_ ?_
      · simp only [execOp, ho, hev, Instr.storeAt, Instr.sureAddr, Sem.run_bind, Sem.run_pure, Result.andThen_ok, hrun, nc]
      · exact ⟨_, _, h4, _, rfl, rfl, (hr.step hst).put (x := .undef) rfl⟩
    obtain ⟨b', e', g2, _, hob⟩ := hr.r.obj id _ h1
    rw [g1] at g2; cases g2
    obtain ⟨rfl, vs, U, h5, h6⟩ := hob
    have hlen := repL_length h5
    have hrun := run_storeVar (P := P) (off := off) hxr hn h2 h6 (by omega)
    have hxl := repL_length (rep_cells hxr)
    rw [h2.1] at hxl
    have hlt := hr.r.gb id b 0 g1
    have hsh : (World.wrote c.w b (.cells (vs.take off ++ (a.eval z).cells.toList ++ vs.drop (off + (a.eval z).cells.toList.length)).toArray U (0, 0))).shape? b = c.w.shape? b := by
      simp only [World.shape?, wrote_at hlt, h6]
      simp at hxl ⊢
      omega
    have hst : Step c0 c (c.wrote id b (.cells (wr cs off x.cells)) (.cells (vs.take off ++ (a.eval z).cells.toList ++ vs.drop (off + (a.eval z).cells.toList.length)).toArray U (0, 0))) :=
      Step.of_evo hr.r (Evo.wrote g1 h1 rfl rfl hsh)
        (R.wrote hr.r g1 h1 rfl rfl hsh ⟨rfl, _, U, repL_ext (Ext.wrote (o' := .cells (wr cs off x.cells)) g1 h1 rfl rfl hsh) _ _ (wr_rep h5 (rep_cells hxr)), wrote_at hlt⟩) rfl
    refine wp_skip' (w' := World.wrote c.w b (.cells (vs.take off ++ (a.eval z).cells.toList ++ vs.drop (off + (a.eval z).cells.toList.length)).toArray U (0, 0))) ?_ ?_
    · simp only [Nat.zero_add] at hev
      simp only [execOp, ho, hev, Instr.storeAt, Instr.sureAddr, Sem.run_bind, Sem.run_pure, Result.andThen_ok, hrun]
    · exact ⟨_, _, h4, _, rfl, rfl, (hr.step hst).put (x := .undef) rfl⟩
  | elt y' off => rw [hy] at h; cases y <;> exact h.elim
  | junk => rw [hy] at h; cases y <;> exact h.elim
  | undef => rw [hy] at h; cases y <;> exact h.elim

/-- the address of a part -/
theorem sound_part {x : Operand} {off : Nat} {v : Value} (hr : RelC H c0 c env a) (hv : ∀ b e, a.eval x = .pointer (some ⟨b, e, none⟩) → v = .pointer (some ⟨b, e + off, none⟩))
    (h : partAddr H env x o.dst off fun y => K (put H env o.dst y) c.s) : Next H c0 K (a.put o.dst v) c.w := by
  have hs := fun blk he => slotOf_rep (x := x) (blk := blk) hr he
  unfold partAddr at h
  cases hx : slotOf env x with
  | box cs =>
    have hb : ∃ t, x = .tmp t := by
      obtain ⟨blk, he⟩ := hr.envs
      have := hs blk he
      rw [hx] at this
      obtain ⟨t, ht, _⟩ := this
      exact ⟨t, ht⟩
    obtain ⟨t, rfl⟩ := hb
    cases hd : o.dst with
    | none => simp [hx, hd] at h
    | some d =>
      simp only [hx, hd] at h
      cases hm : mem d (H.lr t) with
      | false => simp [hm] at h
      | true =>
        simp only [hm, cond_true] at h
        refine ⟨_, _, h, c, rfl, rfl, hr.putRef hm fun blk he => ?_⟩
        have := hs blk he
        rw [hx] at this
        obtain ⟨t', ht', _, h4, _⟩ := this
        cases ht'
        have := hv _ _ h4
        simpa using this
  | ref k e =>
    cases hd : o.dst with
    | none => simp [hx, hd] at h
    | some d =>
      simp only [hx, hd] at h
      cases hm : mem d (H.lr k) with
      | false => simp [hm] at h
      | true =>
        simp only [hm, cond_true] at h
        refine ⟨_, _, h, c, rfl, rfl, hr.putRef hm fun blk he => ?_⟩
        have := hs blk he
        rw [hx] at this
        exact hv _ _ this
  | elt y e =>
    obtain ⟨blk, he⟩ := hr.envs
    have := hs blk he
    rw [hx] at this
    obtain ⟨b, o', vx, h1, h2, h3⟩ := this
    simp only [hx] at h
    refine next_slot (x := .elt y (e + off)) hr ⟨b, o', vx, h1, h2, ?_⟩ h
    rw [hv _ _ h3, Nat.add_assoc]
  | v p =>
    obtain ⟨blk, he⟩ := hr.envs
    have := hs blk he
    rw [hx] at this
    simp only [hx] at h
    obtain ⟨id, e, rfl, h1⟩ := h
    simp only [rep] at this
    obtain ⟨b, e', g1, hev⟩ := this
    refine next_out hr ?_ h1
    simp only [rep]
    exact ⟨b, e', g1, by rw [hv _ _ hev, Nat.add_assoc]⟩
  | junk => simp [hx] at h
  | undef => simp [hx] at h

end
end Go.Proofs.YtdeondiigpidnaaGreat.Ab
end

section
set_option linter.unusedVariables false
set_option linter.unusedSimpArgs false
/- Soundness of operations: what only computes. -/
namespace Go.Proofs.YtdeondiigpidnaaGreat.Ab
open Go
set_option linter.unusedSectionVars false
variable [Fwd]
set_option linter.unusedVariables false
set_option linter.unusedSimpArgs false

section
variable {P : Program} {H : Hints} {c0 c : Ctx} {env : Env} {a : Act} {o : Oper} {K : Cont} {Q : Exit → Act → World → Prop}

theorem sound_nilCheck {x : Operand} (ho : o.op = .nilCheck x) (hr : RelC H c0 c env a)
    (h : nilOp H o x env c.s K) : o.wp P a c.w (Next H c0 K) Q := by
  unfold nilOp nilOut at h
  have hs := fun blk he => slotOf_rep (x := x) (blk := blk) hr he
  obtain ⟨blk, he⟩ := hr.envs
  have hs := hs blk he
  have ptr : ∀ b e, a.eval x = .pointer (some ⟨b, e, none⟩) → (execOp a.eval o).run P c.w = .ok (.value (a.eval x)) c.w := fun b e hv => by simp [execOp, ho, hv]
  have idv : ∀ b e, a.eval x = .pointer (some ⟨b, e, none⟩) → a.eval x = .pointer (some ⟨b, e + 0, none⟩) := fun b e hv => by rw [hv]; rfl
  cases hx : slotOf env x with
  | box cs =>
    rw [hx] at hs h
    obtain ⟨t, rfl, _, hv, _⟩ := hs
    exact wp_value (ptr _ _ hv) (sound_part hr idv h)
  | ref k e =>
    rw [hx] at hs h
    have h' : partAddr H env x o.dst 0 fun y => K (put H env o.dst y) c.s := by cases x <;> exact h
    exact wp_value (ptr _ _ hs) (sound_part hr idv h')
  | elt y e =>
    rw [hx] at hs h
    obtain ⟨b, o', vx, h1, h2, hv⟩ := hs
    refine wp_value (ptr _ _ hv) (next_slot (x := .elt y e) hr ⟨b, o', vx, h1, h2, hv⟩ (by cases x <;> exact h))
  | v p =>
    rw [hx] at hs h
    have h' : notNil p = true ∧ K (put H env o.dst (.v p)) c.s := by cases x <;> exact h
    refine wp_value (v := a.eval x) (w' := c.w) ?_ (next_out hr hs h'.2)
    have h1 := h'.1
    cases p with
    | ptr id off => simp only [rep] at hs; obtain ⟨b, e, _, hv⟩ := hs; simp [execOp, ho, hv]
    | iface t y => simp only [rep] at hs; obtain ⟨y', _, hv⟩ := hs; simp [execOp, ho, hv]
    | fn f xs ys =>
      cases f with
      | func f => simp only [rep] at hs; obtain ⟨_, _, _, _, hv⟩ := hs; simp [execOp, ho, hv]
      | _ => simp [notNil] at h1
    | _ => simp [notNil] at h1
  | junk => rw [hx] at h; cases x <;> exact h.elim
  | undef => rw [hx] at h; cases x <;> exact h.elim

theorem run_eqGuard_plain {op : BinOp} {t : TypeId} {x y : Operand} {u v : Value} {w : World} (h : ∀ cs, u ≠ .agg cs) (h' : u ≠ .nilIface) :
    (eqGuard op t x y u v).run P w = .ok () w := by
  have key : (match u, v with
      | .nilIface, .nilIface => (do
        if (x matches .const _) || (y matches .const _) then return
        if ← Op.eqGuardIn Op.maxDepth t u v then unsupported (.noEntry "binop/eql: two nil values of an interface type with methods, neither of them the literal nil") : Sem Unit)
      | .agg _, .agg _ => (do
        if !(← program).eqGuardType (← program).depth t then return
        if ← Op.eqGuardIn Op.maxDepth t u v then unsupported (.noEntry "binop/eql: two nil values of an interface type with methods, in a part of a struct or an array") : Sem Unit)
      | _, _ => pure ()).run P w = .ok () w := by
    cases u <;> first | exact absurd rfl (h _) | exact absurd rfl h' | (cases v <;> rfl)
  unfold eqGuard
  cases op <;> first | exact key | rfl

theorem run_abin {op : BinOp} {T : TypeId} {x y r : V} {xv yv : Value} {w : World} (hx : rep c x xv) (hy : rep c y yv) (h : abin op x y = some r) :
    ∃ rv, (binOp op T xv yv).run P w = .ok rv w ∧ rep c r rv ∧ (∀ cs, xv ≠ .agg cs) ∧ xv ≠ .nilIface := by
  have shift : ∀ (op : BinOp) (k k' : IntKind) (m n : Int), x = .int k m → y = .int k' n → (op = .shl ∨ op = .shr) → abin op x y = some r →
      ∃ rv, (binOp op T xv yv).run P w = .ok rv w ∧ rep c r rv ∧ (∀ cs, xv ≠ .agg cs) ∧ xv ≠ .nilIface := by
    rintro op k k' m n rfl rfl ho h
    simp only [rep] at hx hy
    subst hx hy
    rcases ho with rfl | rfl
    all_goals
      simp only [abin] at h
      split at h
      · cases h
      · rename_i hn
        cases h
        refine ⟨_, ?_, rfl, by simp, by simp⟩
        simp [binOp, Op.shift, hn]
  cases x with
  | int k m =>
    cases y with
    | int k' n =>
      by_cases hs : op = .shl ∨ op = .shr
      · exact shift op k k' m n rfl rfl hs h
      · have h' : (if k = k' then intBin op k m n else none) = some r := by
          cases op <;> first | (simp at hs; done) | exact h
        split at h'
        · rename_i hk
          subst hk
          simp only [rep] at hx hy
          subst hx hy
          refine ⟨match r with | .int k i => .int k i | .bool b => .bool b | _ => undef, ?_, ?_, by simp, by simp⟩
          · cases op <;> first
              | (simp at hs; done)
              | (simp only [intBin] at h'; cases h'; simp [binOp, Op.intArith, Op.intCmp, Op.intBits]; done)
              | (simp only [intBin] at h'; split at h' <;> first | (cases h'; done) | (cases h'; simp [binOp, Op.intDiv, *]; done))
              | (simp [intBin] at h'; done)
          · cases op <;> first
              | (simp at hs; done)
              | (simp only [intBin] at h'; cases h'; simp [rep]; done)
              | (simp only [intBin] at h'; split at h' <;> first | (cases h'; done) | (cases h'; simp [rep]; done))
              | (simp [intBin] at h'; done)
        · cases h'
    | _ => cases op <;> simp [abin] at h
  | str s =>
    cases y with
    | str u =>
      have h' : strBin op s u = some r := by cases op <;> exact h
      simp only [rep] at hx hy
      subst hx hy
      refine ⟨match r with | .str i => .string i | .bool b => .bool b | _ => undef, ?_, ?_, by simp, by simp⟩
      · cases op <;> first
          | (simp only [strBin] at h'; cases h'; simp [binOp, Op.stringOp]; done)
          | (simp only [strBin] at h'; split at h'
             · cases h'; rename_i hle
               have : ¬ (((s.size + u.size : Nat) : Int) > IntKind.i64.max) := by show ¬ (((s.size + u.size : Nat) : Int) > 9223372036854775807); omega
               simp only [binOp, Op.stringOp, this, if_false, Sem.run_pure]
             · cases h'; done)
          | (simp [strBin] at h'; done)
      · cases op <;> first
          | (simp only [strBin] at h'; cases h'; simp [rep]; done)
          | (simp only [strBin] at h'; split at h' <;> first | (cases h'; done) | (cases h'; simp [rep]; done))
          | (simp [strBin] at h'; done)
    | _ => cases op <;> simp [abin] at h
  | _ => cases op <;> simp [abin] at h

/-- the outcome of == on plain single things -/
theorem run_eqV_in (d : Nat) {k : EK} {T : TypeId} {x y : V} {xv yv : Value} {w : World} {b : Bool} (ht : opK P T = some (.eq k)) (hx : rep c x xv) (hy : rep c y yv) (h : eqV k x y = some b) :
    (Op.equalIn (d + 1) T xv yv).run P w = .ok b w ∧ (∀ cs, xv ≠ .agg cs) ∧ xv ≠ .nilIface ∧ (∀ k n, xv ≠ .int k n) ∧ (∀ s, xv ≠ .string s) ∧ (∀ k n, xv ≠ .float k n) ∧ (∀ k n m, xv ≠ .complex k n m) := by
  unfold opK at ht
  cases hu : P.underlying T with
  | none => simp [hu] at ht
  | some t =>
    rw [hu] at ht
    cases k with
    | bool =>
      obtain rfl : t = .bool := by cases t <;> simp at ht; rfl
      cases x <;> cases y <;> simp [eqV] at h
      simp only [rep] at hx hy
      subst hx hy h
      refine ⟨?_, by simp, by simp, by simp, by simp, by simp, by simp⟩
      simp only [Op.equalIn, Sem.run_bind, run_underlying hu, Result.andThen_ok, Sem.run_pure]
    | ptr =>
      obtain ⟨e, rfl⟩ : ∃ e, t = .pointer e := by cases t <;> simp at ht; exact ⟨_, rfl⟩
      have n : ∀ v, (Op.equalIn (d + 1) T (.pointer none) (.pointer v)).run P w = .ok v.isNone w := fun v => by
        simp only [Op.equalIn, Sem.run_bind, run_underlying hu, Result.andThen_ok, Sem.run_pure]
      have m : ∀ v, (Op.equalIn (d + 1) T (.pointer (some v)) (.pointer none)).run P w = .ok false w := fun v => by
        simp only [Op.equalIn, Sem.run_bind, run_underlying hu, Result.andThen_ok, Sem.run_pure]
      cases x <;> cases y <;> simp [eqV] at h
      · simp only [rep] at hx hy; subst hx hy h
        exact ⟨n none, by simp, by simp, by simp, by simp, by simp, by simp⟩
      · simp only [rep] at hx hy; obtain ⟨_, _, _, rfl⟩ := hy; subst hx h
        exact ⟨n _, by simp, by simp, by simp, by simp, by simp, by simp⟩
      · simp only [rep] at hx hy; obtain ⟨_, _, _, rfl⟩ := hx; subst hy h
        exact ⟨m _, by simp, by simp, by simp, by simp, by simp, by simp⟩
    | func =>
      obtain ⟨p, r, v, rfl⟩ : ∃ p r v, t = .func p r v := by cases t <;> simp at ht; exact ⟨_, _, _, rfl⟩
      cases x <;> cases y <;> simp [eqV] at h
      · simp only [rep] at hx hy; obtain ⟨_, _, _, _, rfl⟩ := hx; subst hy h
        refine ⟨?_, by simp, by simp, by simp, by simp, by simp, by simp⟩
        simp only [Op.equalIn, Sem.run_bind, run_underlying hu, Result.andThen_ok, Sem.run_pure]
      · simp only [rep] at hx hy; obtain ⟨_, _, _, _, rfl⟩ := hy; subst hx h
        refine ⟨?_, by simp, by simp, by simp, by simp, by simp, by simp⟩
        simp only [Op.equalIn, Sem.run_bind, run_underlying hu, Result.andThen_ok, Sem.run_pure]
      · simp only [rep] at hx hy; subst hx hy h
        refine ⟨?_, by simp, by simp, by simp, by simp, by simp, by simp⟩
        simp only [Op.equalIn, Sem.run_bind, run_underlying hu, Result.andThen_ok, Sem.run_pure]
    | map =>
      obtain ⟨p, r, rfl⟩ : ∃ p r, t = .map p r := by cases t <;> simp at ht; exact ⟨_, _, rfl⟩
      cases x <;> cases y <;> simp [eqV] at h
      · simp only [rep] at hx hy; obtain ⟨_, _, _, rfl⟩ := hx; subst hy h
        refine ⟨?_, by simp, by simp, by simp, by simp, by simp, by simp⟩
        simp only [Op.equalIn, Sem.run_bind, run_underlying hu, Result.andThen_ok, Sem.run_pure]
      · simp only [rep] at hx hy; obtain ⟨_, _, _, rfl⟩ := hy; subst hx h
        refine ⟨?_, by simp, by simp, by simp, by simp, by simp, by simp⟩
        simp only [Op.equalIn, Sem.run_bind, run_underlying hu, Result.andThen_ok, Sem.run_pure]; rfl
      · simp only [rep] at hx hy; subst hx hy h
        refine ⟨?_, by simp, by simp, by simp, by simp, by simp, by simp⟩
        simp only [Op.equalIn, Sem.run_bind, run_underlying hu, Result.andThen_ok, Sem.run_pure]; rfl

theorem run_eqV {k : EK} {T : TypeId} {x y : V} {xv yv : Value} {w : World} {b : Bool} (ht : opK P T = some (.eq k)) (hx : rep c x xv) (hy : rep c y yv) (h : eqV k x y = some b) :
    (Op.equal T xv yv).run P w = .ok b w ∧ (∀ cs, xv ≠ .agg cs) ∧ xv ≠ .nilIface ∧ (∀ k n, xv ≠ .int k n) ∧ (∀ s, xv ≠ .string s) ∧ (∀ k n, xv ≠ .float k n) ∧ (∀ k n m, xv ≠ .complex k n m) :=
  run_eqV_in 9999 ht hx hy h

theorem binOp_eql {T : TypeId} {xv yv : Value} {w : World} {b : Bool} (h : (Op.equal T xv yv).run P w = .ok b w) (h1 : ∀ k n, xv ≠ .int k n) (h2 : ∀ s, xv ≠ .string s) (h3 : ∀ k n, xv ≠ .float k n) (h4 : ∀ k n m, xv ≠ .complex k n m) :
    (binOp .eql T xv yv).run P w = .ok (.bool b) w ∧ (binOp .neq T xv yv).run P w = .ok (.bool !b) w := by
  cases xv <;> first
    | exact absurd rfl (h1 _ _)
    | exact absurd rfl (h2 _)
    | exact absurd rfl (h3 _ _)
    | exact absurd rfl (h4 _ _ _)
    | (constructor <;> simp [binOp, h])

end
end Go.Proofs.YtdeondiigpidnaaGreat.Ab
end

section
set_option linter.unusedVariables false
set_option linter.unusedSimpArgs false
/- Soundness of operations: struct equality, keys of maps. -/
namespace Go.Proofs.YtdeondiigpidnaaGreat.Ab
open Go
set_option linter.unusedSectionVars false
variable [Fwd]
set_option linter.unusedVariables false
set_option linter.unusedSimpArgs false

section
variable {P : Program} {c : Ctx}

theorem skOf_spec {t : TypeId} {k : SK} (h : skOf P t = some k) :
    (match k with | .int i => P.underlying t = some (.int i) | .str => P.underlying t = some .string | .bool => P.underlying t = some .bool) := by
  unfold skOf at h
  split at h <;> first | (cases h; assumption) | cases h

theorem hasSK_rep {k : SK} {x : V} {v : Value} (h : hasSK k x = true) (hr : rep c x v) :
    (match k with | .int i => ∃ n, x = .int i n ∧ v = .int i n | .str => ∃ s, x = .str s ∧ v = .string s | .bool => ∃ b, x = .bool b ∧ v = .bool b) := by
  cases k <;> cases x <;> simp [hasSK] at h
  · subst h; simp only [rep] at hr; exact ⟨_, rfl, hr⟩
  · simp only [rep] at hr; exact ⟨_, rfl, hr⟩
  · simp only [rep] at hr; exact ⟨_, rfl, hr⟩

theorem run_equalIn_sk (d : Nat) {t : TypeId} {k : SK} {x y : V} {xv yv : Value} {w : World} (ht : skOf P t = some k) (hx : hasSK k x = true) (hy : hasSK k y = true)
    (rx : rep c x xv) (ry : rep c y yv) : (Op.equalIn (d + 1) t xv yv).run P w = .ok (keqS x y) w := by
  have h1 := skOf_spec ht
  have h2 := hasSK_rep hx rx
  have h3 := hasSK_rep hy ry
  cases k with
  | int i =>
    obtain ⟨n, rfl, rfl⟩ := h2
    obtain ⟨m, rfl, rfl⟩ := h3
    simp [keqS, run_equalIn_int w d t i i n m h1]
  | str =>
    obtain ⟨n, rfl, rfl⟩ := h2
    obtain ⟨m, rfl, rfl⟩ := h3
    simp [keqS, run_equalIn_string w d t n m h1]
  | bool =>
    obtain ⟨n, rfl, rfl⟩ := h2
    obtain ⟨m, rfl, rfl⟩ := h3
    simp only [keqS]
    rw [run_equalIn_bool' w d t n m h1]

theorem sk_scalar {t : TypeId} {k : SK} (h : skOf P t = some k) (w : World) : (isAgg t).run P w = .ok false w := by
  have h1 := skOf_spec h
  unfold isAgg
  cases k <;> simp [run_underlying h1]

theorem run_part_sc {t : TypeId} {w : World} {cs : Array Value} {i : Nat} {v : Value} (h : (isAgg t).run P w = .ok false w) (hi : cs[i]? = some v) : (part t cs i).run P w = .ok v w := by
  simp [part, h, hi]

/-- fields held against each other -/
theorem run_eqFields (d : Nat) {w : World} (X Y : Array Value) : ∀ (fs : List Field) (i : Nat) (ks : List SK) (xs ys : List V),
    sksOf P fs i = some ks → hasSKs ks xs = true → hasSKs ks ys = true →
    (∀ j x, xs[j]? = some x → ∃ v, X[i + j]? = some v ∧ rep c x v) → (∀ j y, ys[j]? = some y → ∃ v, Y[i + j]? = some v ∧ rep c y v) →
    (Op.eqFields (d + 1) X Y fs).run P w = .ok (keqL xs ys) w
  | [], i, ks, xs, ys, h, hx, hy, _, _ => by
    simp [sksOf] at h; subst h
    cases xs <;> simp [hasSKs] at hx
    cases ys <;> simp [hasSKs] at hy
    simp [Op.eqFields, keqL]
  | f :: r, i, ks, xs, ys, h, hx, hy, rx, ry => by
    unfold sksOf at h
    split at h
    · rename_i hf
      split at h
      · rename_i k l h1 h2
        cases h
        cases xs with
        | nil => simp [hasSKs] at hx
        | cons x xs =>
          cases ys with
          | nil => simp [hasSKs] at hy
          | cons y ys =>
            simp [hasSKs] at hx hy
            obtain ⟨xv, hxv, rxv⟩ := rx 0 x rfl
            obtain ⟨yv, hyv, ryv⟩ := ry 0 y rfl
            have ih := run_eqFields d (w := w) X Y r (i + 1) l xs ys h2 hx.2 hy.2 (fun j z hz => by have := rx (j + 1) z (by simpa using hz); rwa [show i + (j + 1) = i + 1 + j by omega] at this)
              (fun j z hz => by have := ry (j + 1) z (by simpa using hz); rwa [show i + (j + 1) = i + 1 + j by omega] at this)
            have hsc := sk_scalar h1 w
            simp only [Nat.add_zero] at hxv hyv
            simp only [Op.eqFields, hf.2, ne_eq, not_false_eq_true, if_true, Sem.run_bind, hf.1, run_part_sc hsc hxv, run_part_sc hsc hyv, Result.andThen_ok,
              run_equalIn_sk d h1 hx.1 hy.1 rxv ryv, keqL]
            cases hk : keqS x y <;> simp [ih]
      · cases h
    · cases h

theorem kkOf_ag {t : TypeId} {ks : List SK} (h : kkOf P t = some (.ag ks)) : ∃ fs, P.underlying t = some (.struct fs) ∧ P.stoodInHeld t = false ∧ sksOf P fs.toList 0 = some ks := by
  unfold kkOf at h
  split at h
  · rename_i fs hu
    split at h
    · cases h
    · rename_i hs
      cases hk : sksOf P fs.toList 0 with
      | none => simp [hk] at h
      | some l => simp [hk] at h; subst h; exact ⟨fs, hu, by simpa using hs, hk⟩
  · cases hk : skOf P t <;> simp [hk] at h

theorem kkOf_one {t : TypeId} {k : SK} (h : kkOf P t = some (.one k)) : skOf P t = some k := by
  unfold kkOf at h
  split at h
  · split at h
    · cases h
    · rename_i fs _ _
      cases hk : sksOf P fs.toList 0 <;> simp [hk] at h
  · cases hk : skOf P t <;> simp [hk] at h; subst h; rfl

theorem run_equalIn_kk (d : Nat) {t : TypeId} {k : KK} {x y : V} {xv yv : Value} {w : World} (ht : kkOf P t = some k) (hx : hasKK k x = true) (hy : hasKK k y = true)
    (rx : rep c x xv) (ry : rep c y yv) : (Op.equalIn (d + 2) t xv yv).run P w = .ok (keq x y) w := by
  cases k with
  | one k =>
    have hk := kkOf_one ht
    have e : keq x y = keqS x y := by cases x <;> first | rfl | (cases k <;> simp [hasKK, hasSK] at hx)
    rw [e]
    exact run_equalIn_sk (d + 1) hk (by simpa [hasKK] using hx) (by simpa [hasKK] using hy) rx ry
  | ag ks =>
    obtain ⟨fs, h1, h2, h3⟩ := kkOf_ag ht
    cases x <;> simp [hasKK] at hx
    cases y <;> simp [hasKK] at hy
    rename_i xs ys
    simp only [rep] at rx ry
    obtain ⟨vx, rx, rfl⟩ := rx
    obtain ⟨vy, ry, rfl⟩ := ry
    have hf : P.fieldsOf t = fs := by simp [Program.fieldsOf, h1]
    rw [run_equalIn_struct w (d + 1) t _ _ (by rw [hf]; exact h1) h2, hf]
    refine run_eqFields (c := c) d _ _ fs.toList 0 ks xs ys h3 hx hy (fun j x hj => ?_) (fun j y hj => ?_)
    · obtain ⟨v, h4, h5⟩ := repL_get rx hj; exact ⟨v, by simpa using h4, h5⟩
    · obtain ⟨v, h4, h5⟩ := repL_get ry hj; exact ⟨v, by simpa using h4, h5⟩

theorem run_equal_kk {t : TypeId} {k : KK} {x y : V} {xv yv : Value} {w : World} (ht : kkOf P t = some k) (hx : hasKK k x = true) (hy : hasKK k y = true)
    (rx : rep c x xv) (ry : rep c y yv) : (Op.equal t xv yv).run P w = .ok (keq x y) w := run_equalIn_kk 9998 ht hx hy rx ry

/-- a plain thing may be a key -/
theorem run_checkKey_sk (n : Nat) {t : TypeId} {k : SK} {x : V} {xv : Value} {w : World} {em : Bool} (ht : skOf P t = some k) (hx : hasSK k x = true) (rx : rep c x xv) :
    (Instr.checkKey em (n + 1) t xv).run P w = .ok () w := by
  have h1 := skOf_spec ht
  have h2 := hasSK_rep hx rx
  cases k with
  | int i => obtain ⟨m, rfl, rfl⟩ := h2; simp [Instr.checkKey, run_underlying h1]
  | str => obtain ⟨m, rfl, rfl⟩ := h2; simp [Instr.checkKey, run_underlying h1]
  | bool => obtain ⟨m, rfl, rfl⟩ := h2; simp [Instr.checkKey, run_underlying h1]

theorem run_checkKey_fields (n : Nat) {w : World} {em : Bool} (X : Array Value) : ∀ (fs : List Field) (i : Nat) (ks : List SK) (xs : List V),
    sksOf P fs i = some ks → hasSKs ks xs = true → (∀ j x, xs[j]? = some x → ∃ v, X[i + j]? = some v ∧ rep c x v) →
    (forIn fs PUnit.unit (fun f _ => do
      if f.name ≠ "_" then Instr.checkKey em (n + 1) f.type (← part f.type X f.offset)
      pure (ForInStep.yield PUnit.unit) : Field → PUnit → Sem (ForInStep PUnit))).run P w = .ok PUnit.unit w
  | [], i, ks, xs, h, hx, _ => by simp
  | f :: r, i, ks, xs, h, hx, rx => by
    unfold sksOf at h
    split at h
    · rename_i hf
      split at h
      · rename_i k l h1 h2
        cases h
        cases xs with
        | nil => simp [hasSKs] at hx
        | cons x xs =>
          simp [hasSKs] at hx
          obtain ⟨xv, hxv, rxv⟩ := rx 0 x rfl
          have ih := run_checkKey_fields n (w := w) (em := em) X r (i + 1) l xs h2 hx.2 (fun j z hz => by have := rx (j + 1) z (by simpa using hz); rwa [show i + (j + 1) = i + 1 + j by omega] at this)
          have hsc := sk_scalar h1 w
          simp only [Nat.add_zero] at hxv
          rw [List.forIn_cons, Sem.run_bind]
          simp only [hf.2, ne_eq, not_false_eq_true, if_true, Sem.run_bind, hf.1, run_part_sc hsc hxv, Result.andThen_ok, run_checkKey_sk n h1 hx.1 rxv, Sem.run_pure]
          exact ih
      · cases h
    · cases h

theorem run_checkKey_kk (n : Nat) {t : TypeId} {k : KK} {x : V} {xv : Value} {w : World} {em : Bool} (ht : kkOf P t = some k) (hx : hasKK k x = true) (rx : rep c x xv) :
    (Instr.checkKey em (n + 2) t xv).run P w = .ok () w := by
  cases k with
  | one k => exact run_checkKey_sk (n + 1) (kkOf_one ht) (by simpa [hasKK] using hx) rx
  | ag ks =>
    obtain ⟨fs, h1, h2, h3⟩ := kkOf_ag ht
    cases x <;> simp [hasKK] at hx
    rename_i xs
    simp only [rep] at rx
    obtain ⟨vx, rx, rfl⟩ := rx
    have := run_checkKey_fields (P := P) (c := c) n (w := w) (em := em) vx.toArray fs.toList 0 ks xs h3 hx (fun j x hj => by obtain ⟨v, h4, h5⟩ := repL_get rx hj; exact ⟨v, by simpa using h4, h5⟩)
    unfold Instr.checkKey
    simp only [Sem.run_bind, run_underlying h1, Result.andThen_ok]
    rw [← Array.forIn_toList]
    have e : ∀ (g : Field → PUnit → Sem (ForInStep PUnit)), g = (fun f _ => do
      if f.name ≠ "_" then Instr.checkKey em (n + 1) f.type (← part f.type vx.toArray f.offset)
      pure (ForInStep.yield PUnit.unit)) → ((Sem.run P (forIn fs.toList PUnit.unit g) w).andThen fun a w' => Sem.run P (pure ()) w') = .ok () w := by
      intro g hg
      rw [hg, this]
      rfl
    refine e _ ?_
    funext f u
    split <;> rfl

/-- where a key stands -/
def findAt (k : V) : List (V × V) → Option Nat
  | [] => none
  | e :: r => if keq k e.1 then some 0 else (findAt k r).map (· + 1)

theorem run_findAsking {t : TypeId} {kk : KK} {k : V} {kv : Value} {w : World} (ht : kkOf P t = some kk) (hk : hasKK kk k = true) (rk : rep c k kv) :
    ∀ (l : List (V × V)) (es : List MapEntry) (i : Nat), repM c l es → (∀ e ∈ l, hasKK kk e.1 = true) →
      (Instr.findAsking t kv es i).run P w = .ok ((findAt k l).bind fun j => (es[j]?).map fun e => (i + j, e.val)) w
  | [], es, i, h, _ => by simp [repM] at h; subst h; simp [Instr.findAsking, findAt]
  | e :: r, es, i, h, ha => by
    simp only [repM] at h
    obtain ⟨y, ys, rfl, h1, h2, h3⟩ := h
    have he := run_equal_kk (w := w) ht hk (ha e (by simp)) rk h1
    have ih := run_findAsking (w := w) ht hk rk r ys (i + 1) h3 (fun e he => ha e (by simp [he]))
    simp only [Instr.findAsking, Sem.run_bind, he, Result.andThen_ok, Sem.run_ite, findAt]
    by_cases hq : keq k e.1 = true
    · simp [hq]
    · simp only [hq, if_false, ih, Bool.false_eq_true]
      cases findAt k r with
      | none => simp
      | some j => simp [Nat.add_assoc, Nat.add_comm 1 j]

theorem sameNow_sk {t : TypeId} {k : SK} {d : TypeDesc} {x y : V} {xv yv : Value} (hd : P.underlying t = some d) (ht : skOf P t = some k) (hx : hasSK k x = true) (hy : hasSK k y = true)
    (rx : rep c x xv) (ry : rep c y yv) : Instr.sameNow d xv yv = some (keqS x y) := by
  have h1 := skOf_spec ht
  have h2 := hasSK_rep hx rx
  have h3 := hasSK_rep hy ry
  cases k with
  | int i =>
    obtain ⟨n, rfl, rfl⟩ := h2
    obtain ⟨m, rfl, rfl⟩ := h3
    rw [h1] at hd; cases hd
    simp [Instr.sameNow, keqS]
  | str =>
    obtain ⟨n, rfl, rfl⟩ := h2
    obtain ⟨m, rfl, rfl⟩ := h3
    rw [h1] at hd; cases hd
    simp [Instr.sameNow, keqS, beq_toListBytes]
  | bool =>
    obtain ⟨n, rfl, rfl⟩ := h2
    obtain ⟨m, rfl, rfl⟩ := h3
    rw [h1] at hd; cases hd
    simp [Instr.sameNow, keqS]

theorem findNow_sk {t : TypeId} {kk : SK} {d : TypeDesc} {k : V} {kv : Value} (hd : P.underlying t = some d) (ht : skOf P t = some kk) (hk : hasSK kk k = true) (rk : rep c k kv) :
    ∀ (l : List (V × V)) (es : List MapEntry) (i : Nat), repM c l es → (∀ e ∈ l, hasSK kk e.1 = true) →
      Instr.findNow d kv es i = some ((findAt k l).bind fun j => (es[j]?).map fun e => (i + j, e.val))
  | [], es, i, h, _ => by simp [repM] at h; subst h; simp [Instr.findNow, findAt]
  | e :: r, es, i, h, ha => by
    simp only [repM] at h
    obtain ⟨y, ys, rfl, h1, h2, h3⟩ := h
    have he := sameNow_sk hd ht hk (ha e (by simp)) rk h1
    have ih := findNow_sk hd ht hk rk r ys (i + 1) h3 (fun e he => ha e (by simp [he]))
    have e1 : keq k e.1 = keqS k e.1 := by cases k <;> first | rfl | (cases kk <;> simp [hasSK] at hk)
    simp only [Instr.findNow, he, findAt, e1]
    cases hq : keqS k e.1 with
    | true => simp
    | false =>
      simp only [ih, Bool.false_eq_true, if_false]
      cases findAt k r with
      | none => simp
      | some j => simp [Nat.add_assoc, Nat.add_comm 1 j]

theorem findNow_struct {fs : Array Field} {kv : Value} {es : List MapEntry} {i : Nat} (h : es ≠ []) : Instr.findNow (.struct fs) kv es i = none := by
  cases es with
  | nil => exact absurd rfl h
  | cons e r => simp [Instr.findNow, Instr.sameNow]

theorem run_findKey {t : TypeId} {kk : KK} {k : V} {kv : Value} {w : World} (ht : kkOf P t = some kk) (hk : hasKK kk k = true) (rk : rep c k kv)
    {l : List (V × V)} {es : List MapEntry} (h : repM c l es) (ha : ∀ e ∈ l, hasKK kk e.1 = true) :
    (Instr.findKey t kv es).run P w = .ok ((findAt k l).bind fun j => (es[j]?).map fun e => (j, e.val)) w := by
  cases kk with
  | one sk =>
    have h1 := kkOf_one ht
    have h2 := skOf_spec h1
    obtain ⟨d, hd⟩ : ∃ d, P.underlying t = some d := by cases sk <;> exact ⟨_, h2⟩
    have h3 := findNow_sk hd h1 (by simpa [hasKK] using hk) rk l es 0 h (fun e he => by simpa [hasKK] using ha e he)
    simp [Instr.findKey, run_underlying hd, h3]
  | ag ks =>
    obtain ⟨fs, h1, _, _⟩ := kkOf_ag ht
    by_cases he : es = []
    · subst he
      cases l with
      | nil => simp [Instr.findKey, run_underlying h1, Instr.findNow, findAt]
      | cons e r => simp [repM] at h
    · have := run_findAsking (w := w) ht hk rk l es 0 h ha
      simp [Instr.findKey, run_underlying h1, findNow_struct he, this]

theorem findAt_spec (k : V) : ∀ (l : List (V × V)),
    (findAt k l = none → mlook l k = none ∧ (∀ x, mput l k x = l ++ [(k, x)]) ∧ mdel l k = l) ∧
    ∀ j, findAt k l = some j → ∃ e, l[j]? = some e ∧ keq k e.1 = true ∧ mlook l k = some e.2 ∧ (∀ x, mput l k x = l.set j (k, x)) ∧ mdel l k = l.eraseIdx j
  | [] => by simp [findAt, mlook, mput, mdel]
  | e :: r => by
    obtain ⟨h1, h2⟩ := findAt_spec k r
    by_cases hq : keq k e.1 = true
    · refine ⟨by simp [findAt, hq], fun j hj => ?_⟩
      simp [findAt, hq] at hj
      subst hj
      exact ⟨e, rfl, hq, by simp [mlook, hq], by simp [mput, hq], by simp [mdel, hq]⟩
    · constructor
      · intro h
        have h' : findAt k r = none := by simpa [findAt, hq] using h
        obtain ⟨h3, h4, h5⟩ := h1 h'
        refine ⟨by simpa [mlook, hq] using h3, fun x => by simp [mput, hq, h4], by simp [mdel, hq, h5]⟩
      · intro j h
        cases hf : findAt k r with
        | none => simp [findAt, hq, hf] at h
        | some j' =>
          simp [findAt, hq, hf] at h
          subst h
          obtain ⟨e', h3, h4, h5, h6, h7⟩ := h2 j' hf
          refine ⟨e', by simpa using h3, h4, by simpa [mlook, hq] using h5, fun x => by simp [mput, hq, h6], by simp [mdel, hq, h7]⟩

theorem repM_get : ∀ {l : List (V × V)} {es : List MapEntry} {i : Nat} {x : V × V}, repM c l es → l[i]? = some x → ∃ e, es[i]? = some e ∧ rep c x.1 e.key ∧ rep c x.2 e.val
  | [], es, i, x, h, hi => by simp at hi
  | y :: r, es, i, x, h, hi => by
    simp only [repM] at h
    obtain ⟨e, ys, rfl, h1, h2, h3⟩ := h
    cases i with
    | zero => simp at hi; subst hi; exact ⟨e, by simp, h1, h2⟩
    | succ i => simp at hi; obtain ⟨u, h4, h5⟩ := repM_get h3 hi; exact ⟨u, by simpa using h4, h5⟩

theorem repM_length : ∀ {l : List (V × V)} {es : List MapEntry}, repM c l es → es.length = l.length
  | [], es, h => by simp [repM] at h; simp [h]
  | x :: r, es, h => by
    simp only [repM] at h
    obtain ⟨y, ys, rfl, _, _, h⟩ := h
    simp [repM_length h]

theorem repM_append : ∀ {l l' : List (V × V)} {es es' : List MapEntry}, repM c l es → repM c l' es' → repM c (l ++ l') (es ++ es')
  | [], l', vs, vs', h, h' => by simp [repM] at h; simpa [h] using h'
  | y :: r, l', vs, vs', h, h' => by
    simp only [repM] at h; obtain ⟨v, ys, rfl, h1, h2, h3⟩ := h
    simp only [List.cons_append, repM]
    exact ⟨v, _, rfl, h1, h2, repM_append h3 h'⟩

theorem repM_set : ∀ {l : List (V × V)} {es : List MapEntry} {i : Nat} {x : V × V} {e : MapEntry}, repM c l es → rep c x.1 e.key → rep c x.2 e.val → repM c (l.set i x) (es.set i e)
  | [], es, i, x, e, h, _, _ => by simp [repM] at h; simp [h, repM]
  | y :: r, es, i, x, e, h, hx, hy => by
    simp only [repM] at h
    obtain ⟨u, ys, rfl, h1, h2, h3⟩ := h
    cases i with
    | zero => simp only [List.set_cons_zero, repM]; exact ⟨e, ys, rfl, hx, hy, h3⟩
    | succ i => simp only [List.set_cons_succ, repM]; exact ⟨u, _, rfl, h1, h2, repM_set h3 hx hy⟩

theorem repM_erase : ∀ {l : List (V × V)} {es : List MapEntry} {i : Nat}, repM c l es → repM c (l.eraseIdx i) (es.eraseIdx i)
  | [], es, i, h => by simp [repM] at h; simp [h, repM]
  | y :: r, es, i, h => by
    simp only [repM] at h
    obtain ⟨u, ys, rfl, h1, h2, h3⟩ := h
    cases i with
    | zero => simpa using h3
    | succ i => simp only [List.eraseIdx_cons_succ, repM]; exact ⟨u, _, rfl, h1, h2, repM_erase h3⟩

end
end Go.Proofs.YtdeondiigpidnaaGreat.Ab
end

section
set_option linter.unusedVariables false
set_option linter.unusedSimpArgs false
/- Soundness of operations: the rest of what only computes, and maps. -/
namespace Go.Proofs.YtdeondiigpidnaaGreat.Ab
open Go
set_option linter.unusedSectionVars false
variable [Fwd]
set_option linter.unusedVariables false
set_option linter.unusedSimpArgs false

section
variable {P : Program} {H : Hints} {c0 c : Ctx} {env : Env} {a : Act} {o : Oper} {K : Cont} {Q : Exit → Act → World → Prop}

theorem rep_bool {b : Bool} : rep c (.bool b) (.bool b) := by simp only [rep]
theorem rep_int {k : IntKind} {n : Int} : rep c (.int k n) (.int k n) := by simp only [rep]
theorem rep_str {s : ByteArray} : rep c (.str s) (.string s) := by simp only [rep]

theorem eqGuard_agg {op : BinOp} {T : TypeId} {x y : Operand} {u v : Array Value} {w : World} (h : P.eqGuardType P.depth T = false) :
    (eqGuard op T x y (.agg u) (.agg v)).run P w = .ok () w := by
  unfold eqGuard
  cases op <;> simp [h]

theorem run_nilEq {T : TypeId} {x : V} {xv : Value} {w : World} {n m : Nat} {K' : Bool → Prop} (ht : opK P T = some .sl) (hx : rep c x xv) (h : nilEq x K') :
    ∃ b, (Op.equal T xv (.slice none n m)).run P w = .ok b w ∧ K' b ∧ (∀ cs, xv ≠ .agg cs) ∧ xv ≠ .nilIface ∧ (∀ k n, xv ≠ .int k n) ∧ (∀ s, xv ≠ .string s) ∧ (∀ k n, xv ≠ .float k n) ∧ (∀ k n m, xv ≠ .complex k n m) := by
  have hu : ∃ e, P.underlying T = some (.slice e) := by
    unfold opK at ht
    split at ht <;> first | (cases ht; done) | exact ⟨_, by assumption⟩
  obtain ⟨e, hu⟩ := hu
  have key : ∀ ad len cap d, (Op.equalIn (d + 1) T (.slice ad len cap) (.slice none n m)).run P w = .ok ad.isNone w := fun ad len cap d => by
    cases ad <;> simp only [Op.equalIn, Sem.run_bind, run_underlying hu, Result.andThen_ok, Sem.run_pure] <;> rfl
  unfold nilEq at h
  split at h
  rotate_left
  · rename_i id sz off len
    simp only [rep] at hx
    rcases hx with ⟨rfl, ad, rfl⟩ | ⟨b, e', cap, sh, g1, rfl, _⟩
    · exact ⟨ad.isNone, key ad 0 0 9999, h.2 rfl _, by simp, by simp, by simp, by simp, by simp, by simp⟩
    · refine ⟨false, key _ len cap 9999, ?_, by simp, by simp, by simp, by simp, by simp, by simp⟩
      by_cases hl : len = 0
      · exact h.2 hl _
      · exact h.1 hl
  · exact h.elim
  obtain ⟨h1, h2⟩ := h
  rename_i l k
  simp only [rep] at hx
  obtain ⟨vs, ad, len, cap, h3, rfl, h4⟩ := hx
  refine ⟨ad.isNone, key ad len cap 9999, ?_, by simp, by simp, by simp, by simp, by simp, by simp⟩
  by_cases hl : l = []
  · exact h2 hl _
  · cases ad with
    | none =>
      rcases h4.row with h5 | ⟨_, _, h5, _⟩
      · subst h5; have := repL_length h3; simp at this; exact absurd (List.length_eq_zero_iff.1 this.symm) hl
      · cases h5
    | some ad => exact h1 hl

theorem sound_binOp {op : BinOp} {T T' : TypeId} {x y : Operand} (ho : o.op = .binOp op T x y T') (hr : RelC H c0 c env a)
    (h : get (opnd env x) fun xv => get (opnd env y) fun yv =>
      match opK P T with
      | some .num => must (abin op xv yv) fun v => K (put H env o.dst (.v v)) c.s
      | some (.eq k) => must (aeq k op xv yv) fun v => K (put H env o.dst (.v v)) c.s
      | some .sl => bif isNilSlice y then nilEq xv fun b => cmpB op b (fun v => K (put H env o.dst (.v v)) c.s) else False
      | some .agg => get (aggEq P T) fun ks => aeqS ks xv yv fun b => cmpB op b (fun v => K (put H env o.dst (.v v)) c.s)
      | none => False) : o.wp P a c.w (Next H c0 K) Q := by
  obtain ⟨xv, hx, h⟩ := get_some h
  obtain ⟨yv, hy, h⟩ := get_some h
  have rx := opnd_rep hr hx
  have ry := opnd_rep hr hy
  have plain : ∀ {r : V} {rv : Value}, (∀ cs, a.eval x ≠ .agg cs) → a.eval x ≠ .nilIface → (binOp op T (a.eval x) (a.eval y)).run P c.w = .ok rv c.w → rep c r rv →
      K (put H env o.dst (.v r)) c.s → o.wp P a c.w (Next H c0 K) Q := by
    intro r rv h1 h2 h3 h4 h5
    refine wp_value (v := rv) (w' := c.w) ?_ (next_out hr h4 h5)
    simp [execOp, ho, run_eqGuard_plain h1 h2, h3]
  split at h
  · obtain ⟨r, h1, h2⟩ := h
    obtain ⟨rv, h3, h4, h5, h6⟩ := run_abin (P := P) (T := T) (w := c.w) rx ry h1
    exact plain h5 h6 h3 h4 h2
  · rename_i k hk
    obtain ⟨r, h1, h2⟩ := h
    unfold aeq at h1
    split at h1
    · cases he : eqV k xv yv with
      | none => simp [he] at h1
      | some b =>
        simp [he] at h1; subst h1
        obtain ⟨h3, h4, h5, h6, h7, h8, h9⟩ := run_eqV (P := P) (w := c.w) hk rx ry he
        exact plain h4 h5 (binOp_eql h3 h6 h7 h8 h9).1 rep_bool h2
    · cases he : eqV k xv yv with
      | none => simp [he] at h1
      | some b =>
        simp [he] at h1; subst h1
        obtain ⟨h3, h4, h5, h6, h7, h8, h9⟩ := run_eqV (P := P) (w := c.w) hk rx ry he
        exact plain h4 h5 (binOp_eql h3 h6 h7 h8 h9).2 rep_bool h2
    · cases h1
  · rename_i hk
    cases hn : isNilSlice y with
    | false => simp [hn] at h
    | true =>
      simp only [hn, cond_true] at h
      have hyv : ∃ n m, a.eval y = .slice none n m := by
        unfold isNilSlice at hn
        split at hn
        · exact ⟨_, _, rfl⟩
        · cases hn
      obtain ⟨n, m, hyv⟩ := hyv
      obtain ⟨b, h1, h2, h4, h5, h6, h7, h8, h9⟩ := run_nilEq (P := P) (w := c.w) (n := n) (m := m) hk rx h
      rw [← hyv] at h1
      have h3 := binOp_eql h1 h6 h7 h8 h9
      unfold cmpB at h2
      split at h2
      · exact plain h4 h5 h3.1 rep_bool h2
      · exact plain h4 h5 h3.2 rep_bool h2
      · exact h2.elim
  · rename_i hk
    obtain ⟨ks, h1, h2⟩ := get_some h
    unfold aggEq at h1
    split at h1
    · rename_i ks' hkk
      split at h1
      · cases h1
      · rename_i hg
        cases h1
        obtain ⟨l, r, rfl, rfl, h3, h4, h5⟩ := h2
        have he := run_equal_kk (w := c.w) hkk (by simpa [hasKK] using h3) (by simpa [hasKK] using h4) rx ry
        simp only [rep] at rx ry
        obtain ⟨vx, _, hvx⟩ := rx
        obtain ⟨vy, _, hvy⟩ := ry
        have hg' : P.eqGuardType P.depth T = false := by simpa using hg
        have fin : ∀ {b : Bool}, (binOp op T (a.eval x) (a.eval y)).run P c.w = .ok (.bool b) c.w → K (put H env o.dst (.v (.bool b))) c.s → o.wp P a c.w (Next H c0 K) Q := by
          intro b h6 h7
          refine wp_value (v := .bool b) (w' := c.w) ?_ (next_out hr rep_bool h7)
          simp only [execOp, ho, Sem.run_bind, hvx, hvy, eqGuard_agg hg', Result.andThen_ok, Sem.run_pure]
          rw [← hvx, ← hvy, h6]
          rfl
        have h3 := binOp_eql he (by simp [hvx]) (by simp [hvx]) (by simp [hvx]) (by simp [hvx])
        unfold cmpB at h5
        split at h5
        · exact fin h3.1 h5
        · exact fin h3.2 h5
        · exact h5.elim
    · cases h1
  · exact h.elim

theorem sound_unOp {op : UnOp} {T : TypeId} {x : Operand} (ho : o.op = .unOp op T x) (hr : RelC H c0 c env a)
    (h : get (opnd env x) fun x => must (aun op x) fun v => K (put H env o.dst (.v v)) c.s) : o.wp P a c.w (Next H c0 K) Q := by
  obtain ⟨v, hx, r, h1, h2⟩ := get_some h
  have rx := opnd_rep hr hx
  unfold aun at h1
  split at h1
  · cases h1
    simp only [rep] at rx
    rename_i b
    exact wp_value (v := .bool !b) (w' := c.w) (by simp [execOp, ho, rx, Op.unary]) (next_out hr rep_bool h2)
  · cases h1
    simp only [rep] at rx
    rename_i k n
    exact wp_value (v := .int k (k.wrap (0 - n))) (w' := c.w) (by simp [execOp, ho, rx, Op.unary, Op.intArith]) (next_out hr rep_int h2)
  · cases h1

theorem sound_convert {S T : TypeId} {x : Operand} (ho : o.op = .convert S T x) (hr : RelC H c0 c env a)
    (h : get (opnd env x) fun x => match P.underlying S, P.underlying T with
      | some (.int _), some (.int k) => ∃ k' n, x = .int k' n ∧ K (put H env o.dst (.v (.int k (k.wrap n)))) c.s
      | some .string, some .string => ∃ b, x = .str b ∧ K (put H env o.dst (.v x)) c.s
      | _, _ => False) : o.wp P a c.w (Next H c0 K) Q := by
  obtain ⟨v, hx, h⟩ := get_some h
  have rx := opnd_rep hr hx
  split at h
  · rename_i k1 k hs ht
    obtain ⟨k', n, rfl, h1⟩ := h
    simp only [rep] at rx
    exact wp_value (v := .int k (k.wrap n)) (w' := c.w) (by simp [execOp, ho, rx, convert, run_underlying hs, run_underlying ht, Conv.intToInt]) (next_out hr rep_int h1)
  · rename_i hs ht
    obtain ⟨b, rfl, h1⟩ := h
    simp only [rep] at rx
    exact wp_value (v := .string b) (w' := c.w) (by simp [execOp, ho, rx, convert, run_underlying hs, run_underlying ht]) (next_out hr rep_str h1)
  · exact h.elim

theorem sound_makeInterface {T : TypeId} {x : Operand} (ho : o.op = .makeInterface T x) (hr : RelC H c0 c env a)
    (h : get (opnd env x) fun x => match P.underlying T with
      | some (.interface _) | none => False
      | some _ => K (put H env o.dst (.v (.iface T x))) c.s) : o.wp P a c.w (Next H c0 K) Q := by
  obtain ⟨v, hx, h⟩ := get_some h
  have rx := opnd_rep hr hx
  split at h
  · exact h.elim
  · exact h.elim
  · rename_i d hn hd
    refine wp_value (v := .iface T (a.eval x)) (w' := c.w) ?_ (next_out hr (by simp only [rep]; exact ⟨_, rx, rfl⟩) h)
    have hne : ∀ ms, d ≠ .interface ms := fun ms e => hn ms e
    cases d <;> first | exact absurd rfl (hne _) | simp [execOp, ho, Instr.makeInterface, run_underlying hd]

theorem sound_makeFunc {fn : Fn} {xs ys : Array Operand} (ho : o.op = .makeFunc fn xs ys) (hr : RelC H c0 c env a)
    (h : get (opnds env xs.toList) fun x => get (opnds env ys.toList) fun y => K (put H env o.dst (.v (.fn fn x y))) c.s) : o.wp P a c.w (Next H c0 K) Q := by
  obtain ⟨x, hx, h⟩ := get_some h
  obtain ⟨y, hy, h⟩ := get_some h
  refine wp_value (v := .func fn (xs.map a.eval) (ys.map a.eval)) (w' := c.w) (by simp [execOp, ho, Instr.makeFunc]) (next_out hr ?_ h)
  simp only [rep]
  exact ⟨_, _, opnds_rep hr hx, opnds_rep hr hy, by congr 1 <;> (apply Array.ext'; simp)⟩

theorem sound_makeMap {T : TypeId} (ho : o.op = .makeMap T none) (hr : RelC H c0 c env a)
    (h : ∀ id, c.s id = none → K (put H env o.dst (.v (.map id))) (c.s.upd id (.map []))) : o.wp P a c.w (Next H c0 K) Q := by
  obtain ⟨id, g1, s1⟩ := hr.r.fresh
  have hst : Step c0 c (c.newObj id 0 (.map []) (.map #[] 0)) := Step.of_evo hr.r (Evo.newObj hr.r g1)
    (R.newObj hr.r g1 ⟨rfl, #[], 0, by simpa [Ctx.newObj] using push_at, by simp [repM], by simp, by simp⟩) rfl
  refine wp_value (v := .map (some c.w.heap.size)) (w' := World.pushed c.w (.map #[] 0)) (by simp [execOp, ho, Instr.makeMap, World.pushed]) ?_
  refine ⟨_, _, h id s1, c.newObj id 0 (.map []) (.map #[] 0), rfl, rfl, (hr.step hst).put (x := .v (.map id)) ?_⟩
  simp only [slotOk, rep]
  exact ⟨c.w.heap.size, 0, by simp [Ctx.newObj], rfl⟩

theorem sound_fieldAddr {T : TypeId} {x : Operand} {f : Nat} (ho : o.op = .fieldAddr T x f) (hr : RelC H c0 c env a)
    (h : get (fieldT P T f) fun tf => get (sizeT P tf.1) fun n => bif Nat.beq n 0 then False else partAddr H env x o.dst tf.2 fun y => K (put H env o.dst y) c.s) :
    o.wp P a c.w (Next H c0 K) Q := by
  obtain ⟨tf, h1, h⟩ := get_some h
  obtain ⟨n, h2, h⟩ := get_some h
  cases hn : Nat.beq n 0 with
  | true => simp [hn] at h
  | false =>
    simp only [hn, cond_false] at h
    have hn0 : n ≠ 0 := fun e => by subst e; simp at hn
    unfold fieldT at h1
    split at h1
    · rename_i fs hu
      split at h1
      · rename_i fl hfl
        cases h1
        have hp : ∃ b e, a.eval x = .pointer (some ⟨b, e, none⟩) := by
          obtain ⟨blk, he⟩ := hr.envs
          have hs := slotOf_rep (x := x) hr he
          unfold partAddr at h
          cases hx : slotOf env x with
          | box cs => rw [hx] at hs; obtain ⟨_, _, _, hv, _⟩ := hs; exact ⟨_, _, hv⟩
          | ref k e => rw [hx] at hs; exact ⟨_, _, hs⟩
          | elt y e => rw [hx] at hs; obtain ⟨_, _, _, _, _, hv⟩ := hs; exact ⟨_, _, hv⟩
          | v p =>
            rw [hx] at hs
            simp only [hx] at h
            obtain ⟨id, e, rfl, _⟩ := h
            simp only [rep] at hs
            obtain ⟨_, _, _, hv⟩ := hs
            exact ⟨_, _, hv⟩
          | junk => simp [hx] at h
          | undef => simp [hx] at h
        obtain ⟨b, e, hv⟩ := hp
        refine wp_value (v := .pointer (some ⟨b, e + fl.offset, none⟩)) (w' := c.w) ?_ (sound_part hr (fun b' e' hv' => ?_) h)
        · simp [execOp, ho, hv, Instr.fieldAt, run_underlying hu, hfl, Instr.sureAddr, fieldPlace, run_sizeT h2, hn0, add_mid]
        · rw [hv] at hv'; cases hv'; rfl
      · cases h1
    · cases h1

theorem run_part {T : TypeId} {k : TK} {cs : List V} {vs : List Value} {off : Nat} {x : V} {w : World} (hk : tk P T = some k) (hx : rd k cs off = some x) (hv : repL c cs vs) :
    ∃ v, (part T vs.toArray off).run P w = .ok v w ∧ rep c x v := by
  cases k with
  | sc =>
    simp only [rd] at hx
    split at hx
    · rename_i y hy
      split at hx
      · cases hx
        obtain ⟨v, h1, h2⟩ := repL_get hv hy
        exact ⟨v, run_part_sc (tk_sc hk w) (by simpa using h1), h2⟩
      · cases hx
    · cases hx
  | ag n =>
    obtain ⟨h1, h2⟩ := tk_ag hk w
    simp only [rd] at hx
    split at hx
    · cases hx
      refine ⟨.agg (vs.toArray.extract off (off + n)), by simp [part, h1, run_sizeT h2], ?_⟩
      simp only [rep]
      refine ⟨_, repL_take n (repL_drop off hv), ?_⟩
      simp [List.extract_eq_take_drop]
    · cases hx

theorem sound_field {T : TypeId} {x : Operand} {f : Nat} (ho : o.op = .field T x f) (hr : RelC H c0 c env a)
    (h : get (opnd env x) fun x => get (fieldT P T f) fun tf => get (tk P tf.1) fun k => ∃ cs, x = .agg cs ∧ must (rd k cs tf.2) fun v => K (put H env o.dst (.v v)) c.s) :
    o.wp P a c.w (Next H c0 K) Q := by
  obtain ⟨v, hx, h⟩ := get_some h
  obtain ⟨tf, h1, h⟩ := get_some h
  obtain ⟨k, hk, cs, rfl, y, h2, h3⟩ := get_some h
  have rx := opnd_rep hr hx
  simp only [rep] at rx
  obtain ⟨vs, h4, h5⟩ := rx
  unfold fieldT at h1
  split at h1
  · rename_i fs hu
    split at h1
    · rename_i fl hfl
      cases h1
      obtain ⟨u, h6, h7⟩ := run_part (P := P) (w := c.w) hk h2 h4
      exact wp_value (v := u) (w' := c.w) (by simp [execOp, ho, h5, Instr.field, run_underlying hu, hfl, asAgg, h6]) (next_out hr h7 h3)
    · cases h1
  · cases h1

theorem sound_extract {x : Operand} {i : Nat} (ho : o.op = .extract x i) (hr : RelC H c0 c env a)
    (h : get (opnd env x) fun t => ∃ l, t = .tup l ∧ must l[i]? fun v => K (put H env o.dst (.v v)) c.s) : o.wp P a c.w (Next H c0 K) Q := by
  obtain ⟨v, hx, l, rfl, y, h1, h2⟩ := get_some h
  have rx := opnd_rep hr hx
  simp only [rep] at rx
  obtain ⟨vs, h3, h4⟩ := rx
  obtain ⟨u, h5, h6⟩ := repL_get h3 h1
  exact wp_value (v := u) (w' := c.w) (by simp [execOp, ho, h4, Instr.extract, h5]) (next_out hr h6 h2)

theorem mapT_spec {T : TypeId} {kk : KK} {z : V} (h : mapT P T = some (kk, z)) : ∃ k e, P.underlying T = some (.map k e) ∧ kkOf P k = some kk ∧ zeroT P e = some z := by
  unfold mapT at h
  split at h
  · rename_i k e hu
    split at h
    · rename_i kk' z' h1 h2
      cases h
      exact ⟨k, e, hu, h1, h2⟩
    · cases h
  · cases h

theorem theMap_rep {m : V} {mv : Value} {l : List (V × V)} (hR : R c) (h : theMap c.s m l) (hm : rep c m mv) :
    (mv = .map none ∧ l = []) ∨ ∃ b es clock, mv = .map (some b) ∧ c.w.heap[b]? = some (.map es clock) ∧ repM c l es.toList := by
  rcases h with ⟨rfl, rfl⟩ | ⟨id, rfl, h⟩
  · simp only [rep] at hm; exact .inl ⟨hm, rfl⟩
  · simp only [rep] at hm
    obtain ⟨b, e, g1, rfl⟩ := hm
    right
    rcases h with h | h
    · obtain ⟨b', e', g2, _, _, es, k, h1, h2, _⟩ := hR.obj id _ h
      rw [g1] at g2; cases g2
      exact ⟨b, es, k, rfl, h1, h2⟩
    · obtain ⟨b', e', g2, _, _, es, k, h1, h2, _⟩ := hR.obj id _ h
      rw [g1] at g2; cases g2
      exact ⟨b, es, k, rfl, h1, h2⟩

theorem sound_lookup {T : TypeId} {x y : Operand} {ok : Bool} (ho : o.op = .lookup T x y ok) (hr : RelC H c0 c env a)
    (h : get (opnd env x) fun m => get (opnd env y) fun k => get (mapT P T) fun t => alook t.1 t.2 ok m k c.s fun v => K (put H env o.dst (.v v)) c.s) : o.wp P a c.w (Next H c0 K) Q := by
  obtain ⟨m, hm, h⟩ := get_some h
  obtain ⟨k, hk, h⟩ := get_some h
  obtain ⟨⟨kk, z⟩, ht, l, h1, h2, h3, h4⟩ := get_some h
  obtain ⟨kt, et, hu, hkk, hz⟩ := mapT_spec ht
  obtain ⟨zv, hzv, hzr⟩ := zeroT_run hz
  have rz := ofValue_rep c hzv
  have rm := opnd_rep hr hm
  have rk := opnd_rep hr hk
  have main : ∀ es : Array MapEntry, repM c l es.toList → (do
      let es : Array MapEntry := es
      Instr.checkKey es.isEmpty 10000 kt (a.eval y)
      let (v, ok') ← match ← Instr.findKey kt (a.eval y) es.toList with
        | some (_, v) => pure (v, true)
        | none => pure (← zeroValue et, false)
      pure (if ok then .tuple #[v, .bool ok'] else v) : Sem Value).run P c.w = (Instr.lookup T (a.eval x) (a.eval y) ok).run P c.w →
      o.wp P a c.w (Next H c0 K) Q := by
    intro es hes hrun
    have hc := run_checkKey_kk (P := P) (c := c) 9998 (w := c.w) (em := es.isEmpty) hkk h2 rk
    have hf := run_findKey (P := P) (w := c.w) hkk h2 rk hes h3
    obtain ⟨f1, f2⟩ := findAt_spec k l
    cases hfa : findAt k l with
    | none =>
      rw [(f1 hfa).1] at h4
      rw [hfa] at hf
      refine wp_value (v := if ok then .tuple #[zv, .bool false] else zv) (w' := c.w) ?_ (next_out hr ?_ h4)
      · simp only [execOp, ho, Sem.run_bind, ← hrun, hc, hf, Option.bind_none, Result.andThen_ok, hzr, Sem.run_pure]
      · cases ok
        · exact rz
        · simp only [if_true, rep, repL]; exact ⟨[_, _], ⟨_, _, rfl, rz, _, _, rfl, rfl, rfl⟩, rfl⟩
    | some j =>
      obtain ⟨e, h5, h6, h7, _, _⟩ := f2 j hfa
      rw [h7] at h4
      rw [hfa] at hf
      obtain ⟨en, h8, h9, h10⟩ := repM_get hes h5
      refine wp_value (v := if ok then .tuple #[en.val, .bool true] else en.val) (w' := c.w) ?_ (next_out hr ?_ h4)
      · simp only [execOp, ho, Sem.run_bind, ← hrun, hc, hf, Option.bind_some, h8, Option.map_some, Result.andThen_ok, Sem.run_pure]
      · cases ok
        · exact h10
        · simp only [if_true, rep, repL]; exact ⟨[_, _], ⟨_, _, rfl, h10, _, _, rfl, rfl, rfl⟩, rfl⟩
  rcases theMap_rep hr.r h1 rm with ⟨hmv, rfl⟩ | ⟨b, es, clock, hmv, h5, h6⟩
  · refine main #[] (by simp [repM]) ?_
    rw [hmv]
    simp only [Instr.lookup, Sem.run_bind, run_underlying hu, Result.andThen_ok, Sem.run_pure]
    rfl
  · refine main es h6 ?_
    rw [hmv]
    have hg : (getObj b).run P c.w = .ok (.map es clock) c.w := by simp [getObj, Sem.run, h5]
    simp only [Instr.lookup, Sem.run_bind, run_underlying hu, hg, Result.andThen_ok, Sem.run_pure]
    rfl

end
end Go.Proofs.YtdeondiigpidnaaGreat.Ab
end

section
set_option linter.unusedVariables false
set_option linter.unusedSimpArgs false
/- Soundness of operations: maps that are written; parts of lists and texts; length. -/
namespace Go.Proofs.YtdeondiigpidnaaGreat.Ab
open Go
set_option linter.unusedSectionVars false
variable [Fwd]
set_option linter.unusedVariables false
set_option linter.unusedSimpArgs false

section
variable {P : Program} {H : Hints} {c0 c : Ctx} {env : Env} {a : Act} {o : Oper} {K : Cont} {Q : Exit → Act → World → Prop}

theorem bytes_inj {x y : ByteArray} (h : x.toList = y.toList) : x = y := by
  rw [ByteArray.toList_eq, ByteArray.toList_eq] at h
  cases x; cases y
  simp at h
  congr 1

/-- a map of the store is turned -/
theorem step_map {id b : Nat} {l l' : List (V × V)} {es es' : Array MapEntry} {clock clock' : Nat} (hR : R c) (hs : c.s id = some (.map l)) (hg : c.g id = some (b, 0))
    (hb : c.w.heap[b]? = some (.map es clock)) (hr : repM c l' es'.toList) (hn : (es'.toList.map (·.born)).Nodup) (hk : ∀ x ∈ es'.toList, x.born < clock') :
    Step c0 c (c.wrote id b (.map l') (.map es' clock')) := by
  have hlt := hR.gb id b 0 hg
  have hsh : (World.wrote c.w b (.map es' clock')).shape? b = c.w.shape? b := by simp [World.shape?, wrote_at hlt, hb]
  have hext := Ext.wrote (o' := .map l') hg hs rfl rfl hsh
  exact Step.of_evo hR (Evo.wrote hg hs rfl rfl hsh) (R.wrote hR hg hs rfl rfl hsh ⟨rfl, es', clock', wrote_at hlt, repM_ext hext _ _ hr, hn, hk⟩) rfl

theorem sameBits_kk {kk : KK} {x y : V} {xv yv : Value} (hx : hasKK kk x = true) (hy : hasKK kk y = true) (rx : rep c x xv) (ry : rep c y yv) (he : keq x y = true) : xv = yv := by
  have sk : ∀ {k : SK} {x y : V} {xv yv : Value}, hasSK k x = true → hasSK k y = true → rep c x xv → rep c y yv → keqS x y = true → xv = yv := by
    intro k x y xv yv hx hy rx ry he
    have h2 := hasSK_rep hx rx
    have h3 := hasSK_rep hy ry
    cases k with
    | int i =>
      obtain ⟨n, rfl, rfl⟩ := h2
      obtain ⟨m, rfl, rfl⟩ := h3
      simp [keqS] at he; subst he; rfl
    | str =>
      obtain ⟨n, rfl, rfl⟩ := h2
      obtain ⟨m, rfl, rfl⟩ := h3
      simp only [keqS] at he
      have := bytes_inj (eq_of_beq he)
      subst this; rfl
    | bool =>
      obtain ⟨n, rfl, rfl⟩ := h2
      obtain ⟨m, rfl, rfl⟩ := h3
      simp [keqS] at he; subst he; rfl
  cases kk with
  | one k =>
    have e : keq x y = keqS x y := by cases x <;> first | rfl | (cases k <;> simp [hasKK, hasSK] at hx)
    exact sk (by simpa [hasKK] using hx) (by simpa [hasKK] using hy) rx ry (e ▸ he)
  | ag ks =>
    cases x <;> simp [hasKK] at hx
    cases y <;> simp [hasKK] at hy
    rename_i xs ys
    simp only [rep] at rx ry
    obtain ⟨vx, rx, rfl⟩ := rx
    obtain ⟨vy, ry, rfl⟩ := ry
    have : ∀ (ks : List SK) (xs ys : List V) (vx vy : List Value), hasSKs ks xs = true → hasSKs ks ys = true → repL c xs vx → repL c ys vy → keqL xs ys = true → vx = vy := by
      intro ks
      induction ks with
      | nil =>
        intro xs ys vx vy hx hy rx ry he
        cases xs <;> simp [hasSKs] at hx
        cases ys <;> simp [hasSKs] at hy
        simp only [repL] at rx ry
        rw [rx, ry]
      | cons k ks ih =>
        intro xs ys vx vy hx hy rx ry he
        cases xs with
        | nil => simp [hasSKs] at hx
        | cons x xs =>
          cases ys with
          | nil => simp [hasSKs] at hy
          | cons y ys =>
            simp [hasSKs] at hx hy
            simp [keqL] at he
            simp only [repL] at rx ry
            obtain ⟨v, vs, rfl, h1, h2⟩ := rx
            obtain ⟨u, us, rfl, h3, h4⟩ := ry
            rw [sk hx.1 hy.1 h1 h3 he.1, ih xs ys vs us hx.2 hy.2 h2 h4 he.2]
    rw [this ks xs ys vx vy hx hy rx ry he]

theorem sameBits_refl {kk : KK} {x : V} {xv : Value} (hx : hasKK kk x = true) (rx : rep c x xv) : Instr.sameBits 10000 xv xv = true := by
  have sk : ∀ {k : SK} {x : V} {xv : Value} (n : Nat), hasSK k x = true → rep c x xv → Instr.sameBits n xv xv = true := by
    intro k x xv n hx rx
    have h2 := hasSK_rep hx rx
    cases k with
    | int i => obtain ⟨m, rfl, rfl⟩ := h2; cases n <;> simp [Instr.sameBits]
    | str => obtain ⟨m, rfl, rfl⟩ := h2; cases n <;> simp [Instr.sameBits, beq_toListBytes]
    | bool => obtain ⟨m, rfl, rfl⟩ := h2; cases n <;> simp [Instr.sameBits]
  cases kk with
  | one k => exact sk _ (by simpa [hasKK] using hx) rx
  | ag ks =>
    cases x <;> simp [hasKK] at hx
    rename_i xs
    simp only [rep] at rx
    obtain ⟨vx, rx, rfl⟩ := rx
    have : ∀ (n : Nat) (ks : List SK) (xs : List V) (vx : List Value), hasSKs ks xs = true → repL c xs vx → (vx.zip vx).all (fun (x, y) => Instr.sameBits n x y) = true := by
      intro n ks
      induction ks with
      | nil =>
        intro xs vx hx rx
        cases xs <;> simp [hasSKs] at hx
        simp only [repL] at rx
        simp [rx]
      | cons k ks ih =>
        intro xs vx hx rx
        cases xs with
        | nil => simp [hasSKs] at hx
        | cons x xs =>
          simp [hasSKs] at hx
          simp only [repL] at rx
          obtain ⟨v, vs, rfl, h1, h2⟩ := rx
          simp only [List.zip_cons_cons, List.all_cons, sk n hx.1 h1, Bool.true_and]
          exact ih xs vs hx.2 h2
    have h := this 9999 ks xs vx hx rx
    show (vx.toArray.size == vx.toArray.size && (vx.toArray.toList.zip vx.toArray.toList).all fun (x, y) => Instr.sameBits 9999 x y) = true
    simp only [beq_self_eq_true, Bool.true_and]
    exact h

theorem list_modify_set {α : Type} (l : List α) (j : Nat) (f : α → α) (e : α) (h : l[j]? = some e) : l.modify j f = l.set j (f e) := by
  apply List.ext_getElem?
  intro i
  by_cases hi : i = j
  · subst hi
    obtain ⟨hlt, hv⟩ := List.getElem?_eq_some_iff.1 h
    simp [List.getElem?_modify, List.getElem?_set, hlt, hv]
  · simp [List.getElem?_modify, List.getElem?_set, Ne.symm hi]

theorem nodup_set_born {es : List MapEntry} {j : Nat} {e e' : MapEntry} (h : es[j]? = some e) (hb : e'.born = e.born) : (es.set j e').map (·.born) = es.map (·.born) := by
  apply List.ext_getElem?
  intro i
  by_cases hi : i = j
  · subst hi
    obtain ⟨hlt, hv⟩ := List.getElem?_eq_some_iff.1 h
    simp [List.getElem?_set, hlt, hb, hv]
  · simp [List.getElem?_set, Ne.symm hi]

theorem sound_mapUpdate {T : TypeId} {x y z : Operand} (ho : o.op = .mapUpdate T x y z ∨ o.op = .insert T x y z) (hr : RelC H c0 c env a)
    (h : get (opnd env x) fun m => get (opnd env y) fun k => get (opnd env z) fun u => get (mapT P T) fun t => amput t.1 m k u c.s fun s' => K (put H env o.dst .undef) s') :
    o.wp P a c.w (Next H c0 K) Q := by
  obtain ⟨m, hm, h⟩ := get_some h
  obtain ⟨k, hk, h⟩ := get_some h
  obtain ⟨u, hu', h⟩ := get_some h
  obtain ⟨⟨kk, zz⟩, ht, id, l, rfl, h1, h2, h3, h4⟩ := get_some h
  obtain ⟨kt, et, hu, hkk, _⟩ := mapT_spec ht
  have rm := opnd_rep hr hm
  have rk := opnd_rep hr hk
  have ru := opnd_rep hr hu'
  simp only [rep] at rm
  obtain ⟨b, e, g1, hmv⟩ := rm
  obtain ⟨b', e', g2, _, rfl, es, clock, h5, h6, h7, h8⟩ := hr.r.obj id _ h1
  rw [g1] at g2; cases g2
  have hc := run_checkKey_kk (P := P) (c := c) 9998 (w := c.w) (em := false) hkk h2 rk
  have hf := run_findKey (P := P) (w := c.w) hkk h2 rk h6 h3
  obtain ⟨f1, f2⟩ := findAt_spec k l
  have hg : (getObj b).run P c.w = .ok (.map es clock) c.w := by simp [getObj, Sem.run, h5]
  have hlt := hr.r.gb id b 0 g1
  have hset : ∀ ob, (setObj b ob).run P c.w = .ok () (World.wrote c.w b ob) := fun ob => by simp [setObj, Sem.run, h5, World.wrote]
  have fin : ∀ (es' : Array MapEntry) (clock' : Nat), (Instr.mapUpdate T (a.eval x) (a.eval y) (a.eval z)).run P c.w = .ok () (World.wrote c.w b (.map es' clock')) →
      repM c (mput l k u) es'.toList → (es'.toList.map (·.born)).Nodup → (∀ x ∈ es'.toList, x.born < clock') → o.wp P a c.w (Next H c0 K) Q := by
    intro es' clock' hrun hrep hnd hbk
    have hst := step_map (c0 := c0) hr.r h1 g1 h5 hrep hnd hbk
    refine wp_skip' (w' := World.wrote c.w b (.map es' clock')) ?_ ⟨_, _, h4, _, rfl, rfl, (hr.step hst).put (x := .undef) rfl⟩
    rcases ho with ho | ho <;> simp only [execOp, ho, Sem.run_bind, hrun, Result.andThen_ok, Sem.run_pure]
  cases hfa : findAt k l with
  | none =>
    rw [hfa] at hf
    refine fin (es.push { key := a.eval y, val := a.eval z, born := clock }) (clock + 1) ?_ ?_ ?_ ?_
    · rw [hmv]
      simp only [Instr.mapUpdate, Sem.run_bind, run_underlying hu, hg, hc, hf, Option.bind_none, Result.andThen_ok, hset]
    · rw [(f1 hfa).2.1]
      simp only [Array.toList_push]
      exact repM_append h6 (by simp only [repM]; exact ⟨_, _, rfl, rk, ru, rfl⟩)
    · simp only [Array.toList_push, List.map_append, List.map_cons, List.map_nil]
      rw [List.nodup_append]
      refine ⟨h7, by simp, fun x hx y hy => ?_⟩
      simp at hy; subst hy
      obtain ⟨en, hen, rfl⟩ := List.mem_map.1 hx
      exact Nat.ne_of_lt (h8 en hen)
    · intro en hen
      simp only [Array.toList_push, List.mem_append, List.mem_singleton] at hen
      rcases hen with hen | rfl
      · exact Nat.lt_succ_of_lt (h8 en hen)
      · exact Nat.lt_succ_self _
  | some j =>
    obtain ⟨e, h9, h10, _, h11, _⟩ := f2 j hfa
    obtain ⟨en, h12, h13, h14⟩ := repM_get h6 h9
    rw [hfa] at hf
    have hkeq : a.eval y = en.key := sameBits_kk h2 (h3 e (List.mem_of_getElem? h9)) rk h13 h10
    have harr : es[j]? = some en := by simpa using h12
    have hsb := sameBits_refl h2 rk
    have hmod : (es.modify j fun e => { e with key := a.eval y, val := a.eval z }).toList = es.toList.set j { en with key := a.eval y, val := a.eval z } := by
      simp only [Array.toList_modify]
      exact list_modify_set es.toList j (fun e => { e with key := a.eval y, val := a.eval z }) en h12
    refine fin (es.modify j fun e => { e with key := a.eval y, val := a.eval z }) clock ?_ ?_ ?_ ?_
    · rw [hmv]
      have hks : (Instr.keyThatStays (((es[j]?).map (·.key)).getD (a.eval y)) (a.eval y)).run P c.w = .ok (a.eval y) c.w := by
        rw [harr]
        simp only [Option.map_some, Option.getD_some, ← hkeq, Instr.keyThatStays, hsb, if_true, Sem.run_pure]
      simp only [Instr.mapUpdate, Sem.run_bind, run_underlying hu, hg, hc, hf, Option.bind_some, h12, Option.map_some, Result.andThen_ok, hks, hset]
    · rw [h11, hmod]
      exact repM_set h6 rk ru
    · rw [hmod, nodup_set_born (e' := { en with key := a.eval y, val := a.eval z }) h12 rfl]; exact h7
    · rw [hmod]
      intro x hx
      rcases List.mem_or_eq_of_mem_set hx with hx | rfl
      · exact h8 x hx
      · exact h8 en (List.mem_of_getElem? h12)

theorem sound_delete {T : TypeId} {x y : Operand} {cl : Call} (ho : o.op = .call cl) (hcl : cl.callee = .builtin .delete) (hargs : cl.args.toList = [x, y]) {Ts : List TypeId} (hT : cl.argTypes.toList = T :: Ts)
    (hr : RelC H c0 c env a) {m k : V} (hm : opnd env x = some m) (hk : opnd env y = some k)
    (h : get (mapT P T) fun t => amdel t.1 m k c.s fun s' => K (put H env o.dst .undef) s') : o.wp P a c.w (Next H c0 K) Q := by
  obtain ⟨⟨kk, zz⟩, ht, id, l, rfl, h1, h2, h3, h4⟩ := get_some h
  obtain ⟨kt, et, hu, hkk, _⟩ := mapT_spec ht
  have rm := opnd_rep hr hm
  have rk := opnd_rep hr hk
  simp only [rep] at rm
  obtain ⟨b, e, g1, hmv⟩ := rm
  obtain ⟨b', e', g2, _, rfl, es, clock, h5, h6, h7, h8⟩ := hr.r.obj id _ h1
  rw [g1] at g2; cases g2
  have hc := run_checkKey_kk (P := P) (c := c) 9998 (w := c.w) (em := es.isEmpty) hkk h2 rk
  have hf := run_findKey (P := P) (w := c.w) hkk h2 rk h6 h3
  obtain ⟨f1, f2⟩ := findAt_spec k l
  have hg : (getObj b).run P c.w = .ok (.map es clock) c.w := by simp [getObj, Sem.run, h5]
  have hset : ∀ ob, (setObj b ob).run P c.w = .ok () (World.wrote c.w b ob) := fun ob => by simp [setObj, Sem.run, h5, World.wrote]
  have ha : cl.args.map a.eval = #[a.eval x, a.eval y] := by
    apply Array.ext'; simp [hargs]
  have hT0 : cl.argTypes[0]? = some T := by
    have : cl.argTypes = (T :: Ts).toArray := by rw [← hT]
    simp [this]
  have fin : ∀ (es' : Array MapEntry), (Builtin.delete_ cl.argTypes o.type #[a.eval x, a.eval y]).run P c.w = .ok (.tuple #[]) (World.wrote c.w b (.map es' clock)) →
      repM c (mdel l k) es'.toList → (es'.toList.map (·.born)).Nodup → (∀ x ∈ es'.toList, x.born < clock) → o.wp P a c.w (Next H c0 K) Q := by
    intro es' hrun hrep hnd hbk
    have hst := step_map (c0 := c0) hr.r h1 g1 h5 hrep hnd hbk
    refine wp_value (v := .tuple #[]) (w' := World.wrote c.w b (.map es' clock)) ?_ ⟨_, _, h4, _, rfl, rfl, (hr.step hst).put (x := .undef) rfl⟩
    simp only [execOp, ho, Sem.run_bind, resolve, hcl, Sem.run_pure, Result.andThen_ok, invoke, builtin, ha, hrun]
  cases hfa : findAt k l with
  | none =>
    rw [hfa] at hf
    refine fin es ?_ ?_ h7 h8
    · rw [hmv]
      simp only [Builtin.delete_, hT0, Sem.run_bind, run_underlying hu, hg, hc, hf, Option.bind_none, Result.andThen_ok, hset, Sem.run_pure]
      simp [run_underlying hu, hg, hc, hf, hset]
    · rw [(f1 hfa).2.2]; exact h6
  | some j =>
    obtain ⟨e, h9, h10, _, _, h11⟩ := f2 j hfa
    obtain ⟨en, h12, h13, h14⟩ := repM_get h6 h9
    rw [hfa] at hf
    have hj : j < es.size := by
      have := (List.getElem?_eq_some_iff.1 h12).1; simpa using this
    have her : (es.eraseIdxIfInBounds j).toList = es.toList.eraseIdx j := by simp [Array.eraseIdxIfInBounds, hj]
    refine fin (es.eraseIdxIfInBounds j) ?_ ?_ ?_ ?_
    · rw [hmv]
      have h12' : es[j]? = some en := by simpa using h12
      simp [Builtin.delete_, hT0, run_underlying hu, hg, hc, hf, h12', hset]
    · rw [h11, her]; exact repM_erase h6
    · rw [her]; exact h7.sublist ((List.eraseIdx_sublist _ _).map _)
    · rw [her]; exact fun x hx => h8 x (List.mem_of_mem_eraseIdx hx)

end
end Go.Proofs.YtdeondiigpidnaaGreat.Ab
end

section
set_option linter.unusedVariables false
set_option linter.unusedSimpArgs false
/- Soundness of operations: parts of lists and texts, length, structs and lists that are written out. -/
namespace Go.Proofs.YtdeondiigpidnaaGreat.Ab
open Go
set_option linter.unusedSectionVars false
variable [Fwd]
set_option linter.unusedVariables false
set_option linter.unusedSimpArgs false

section
variable {P : Program} {H : Hints} {c0 c : Ctx} {env : Env} {a : Act} {o : Oper} {K : Cont} {Q : Exit → Act → World → Prop}

theorem elemT_spec {T e : TypeId} (h : elemT P T = some e) : P.underlying T = some (.slice e) := by
  unfold elemT at h
  split at h
  · rename_i e' hu; cases h; exact hu
  · cases h

/-- the element at a place of a row -/
theorem placed_flat {vs : List Value} {sz b off : Nat} (hsz : ∀ v ∈ vs, v.cells.size = sz) (h : placed c b off (flat vs)) :
    ∀ {i : Nat} {v : Value}, vs[i]? = some v → placed c b (off + i * sz) v.cells.toList := by
  induction vs generalizing off with
  | nil => intro i v hi; simp at hi
  | cons x r ih =>
    intro i v hi
    have hx : x.cells.size = sz := hsz x (by simp)
    cases i with
    | zero =>
      simp at hi; subst hi
      intro j u hj
      have := h j u (by
        simp only [flat, List.flatMap_cons]
        rw [List.getElem?_append_left (by have := (List.getElem?_eq_some_iff.1 hj).1; exact this)]
        exact hj)
      simpa using this
    | succ i =>
      simp at hi
      have h' : placed c b (off + sz) (flat r) := by
        intro j u hj
        have := h (x.cells.size + j) u (by
          simp only [flat, List.flatMap_cons]
          rw [List.getElem?_append_right (by simp)]
          simp only [Array.length_toList, Nat.add_sub_cancel_left]
          exact hj)
        rw [hx] at this
        simpa [Nat.add_assoc] using this
      have := ih (fun v hv => hsz v (by simp [hv])) h' hi
      rw [Nat.add_mul, Nat.one_mul]
      rwa [show off + (i * sz + sz) = off + sz + i * sz by omega]

theorem sound_indexAddr {T : TypeId} {x y : Operand} (ho : o.op = .indexAddr T x y) (hr : RelC H c0 c env a)
    (h : get (opnd env y) fun i => match P.underlying T with
      | some (.slice e) => get (sizeT P e) fun sz => get (opnd env x) fun x => aidx sz x i fun y => K (put H env o.dst y) c.s
      | some (.array len e) => get (sizeT P e) fun sz => ∃ k n, i = .int k n ∧ 0 ≤ n ∧ n < len ∧ partAddr H env x o.dst (n.toNat * sz) fun y => K (put H env o.dst y) c.s
      | _ => False) : o.wp P a c.w (Next H c0 K) Q := by
  obtain ⟨i, hi, h⟩ := get_some h
  have ri := opnd_rep hr hi
  split at h
  · rename_i e hu
    obtain ⟨sz, hsz, h⟩ := get_some h
    obtain ⟨xv, hx, h⟩ := get_some h
    have rx := opnd_rep hr hx
    have hcase : (∃ l k, xv = .sl l k) ∨ ∃ id sz' off len, xv = .vw id sz' off len := by
      cases xv <;> first | exact h.elim | exact .inl ⟨_, _, rfl⟩ | exact .inr ⟨_, _, _, _, rfl⟩
    rcases hcase with ⟨l, k', rfl⟩ | ⟨id, sz', off, len, rfl⟩
    rotate_left
    · obtain ⟨k, n, rfl, rfl, h1, h2, h3⟩ := h
      simp only [rep] at rx ri
      rcases rx with ⟨rfl, _⟩ | ⟨b, e', cap, sh, g1, hxv, h0, h4, h5, h6⟩
      · exfalso; omega
      · refine wp_value (v := .pointer (some ⟨b, e' + off * sz' + n.toNat * sz', none⟩)) (w' := c.w) ?_ (next_slot (x := .v (.ptr id ((off + n.toNat) * sz'))) hr ?_ h3)
        · simp [execOp, ho, hxv, ri, Instr.indexAt, asIntOf, run_underlying hu, h1, h2, run_sizeT hsz, add_mid]
        · simp only [slotOk, rep]
          exact ⟨b, e', g1, by rw [Nat.add_mul, Nat.add_assoc]⟩
    obtain ⟨k, n, el, rfl, h1, h2, h3, h4⟩ := h
    simp only [rep] at rx ri
    obtain ⟨vs, ad, len, cap, h5, hxv, h6⟩ := rx
    obtain ⟨v, h7, h8⟩ := repL_get h5 h2
    have hsize : v.cells.size = sz := by
      have := repL_length (rep_cells h8)
      simp at this; omega
    obtain ⟨sz', hsz'⟩ := h6.size
    obtain rfl : sz' = sz := (hsz' v (List.mem_of_getElem? h7)).symm.trans hsize
    rcases h6.row with rfl | ⟨b, off, rfl, hp⟩
    · simp at h7
    · have hlt : n.toNat < vs.length := (List.getElem?_eq_some_iff.1 h7).1
      have hb : 0 ≤ n ∧ n < (len : Int) := ⟨h1, by have := h6.len; omega⟩
      refine wp_value (v := .pointer (some ⟨b, off + n.toNat * sz', none⟩)) (w' := c.w) ?_ (next_slot (x := .elt el 0) hr ⟨b, off + n.toNat * sz', v, h8, placed_flat hsz' hp h7, rfl⟩ h4)
      simp [execOp, ho, hxv, ri, Instr.indexAt, asIntOf, run_underlying hu, hb, run_sizeT hsz, add_mid]
  · rename_i len e hu
    obtain ⟨sz, hsz, k, n, rfl, h1, h2, h3⟩ := get_some h
    simp only [rep] at ri
    have hp : ∃ b e, a.eval x = .pointer (some ⟨b, e, none⟩) := by
      obtain ⟨blk, he⟩ := hr.envs
      have hs := slotOf_rep (x := x) hr he
      have h := h3
      unfold partAddr at h
      cases hx : slotOf env x with
      | box cs => rw [hx] at hs; obtain ⟨_, _, _, hv, _⟩ := hs; exact ⟨_, _, hv⟩
      | ref k e => rw [hx] at hs; exact ⟨_, _, hs⟩
      | elt y e => rw [hx] at hs; obtain ⟨_, _, _, _, _, hv⟩ := hs; exact ⟨_, _, hv⟩
      | v p =>
        rw [hx] at hs
        simp only [hx] at h
        obtain ⟨id, e, rfl, _⟩ := h
        simp only [rep] at hs
        obtain ⟨_, _, _, hv⟩ := hs
        exact ⟨_, _, hv⟩
      | junk => simp [hx] at h
      | undef => simp [hx] at h
    obtain ⟨b, e', hv⟩ := hp
    refine wp_value (v := .pointer (some ⟨b, e' + n.toNat * sz, none⟩)) (w' := c.w) ?_ (sound_part hr (fun b2 e2 hv2 => ?_) h3)
    · simp [execOp, ho, hv, ri, Instr.indexAt, asIntOf, run_underlying hu, Instr.sureAddr, h1, h2, run_sizeT hsz, add_mid]
    · rw [hv] at hv2; cases hv2; rfl
  · exact h.elim

theorem sound_index {T : TypeId} {x y : Operand} (ho : o.op = .index T x y) (hr : RelC H c0 c env a)
    (h : get (opnd env y) fun i => get (opnd env x) fun x => match P.underlying T with
      | some .string => aidxS x i fun v => K (put H env o.dst (.v v)) c.s
      | some (.array len e) => get (tk P e) fun k => get (sizeT P e) fun sz => ∃ cs k' n, x = .agg cs ∧ i = .int k' n ∧ 0 ≤ n ∧ n < len ∧ must (rd k cs (n.toNat * sz)) fun v => K (put H env o.dst (.v v)) c.s
      | _ => False) : o.wp P a c.w (Next H c0 K) Q := by
  obtain ⟨i, hi, h⟩ := get_some h
  obtain ⟨xv, hx, h⟩ := get_some h
  have ri := opnd_rep hr hi
  have rx := opnd_rep hr hx
  split at h
  · rename_i hu
    obtain ⟨s, k, n, b, rfl, rfl, h1, h2, h3⟩ := h
    simp only [rep] at ri rx
    exact wp_value (v := .int .u8 b.toNat) (w' := c.w) (by simp [execOp, ho, rx, ri, Instr.index, asIntOf, run_underlying hu, h1, h2]) (next_out hr rep_int h3)
  · rename_i len e hu
    obtain ⟨k, hk, h⟩ := get_some h
    obtain ⟨sz, hsz, cs, k', n, rfl, rfl, h1, h2, y', h3, h4⟩ := get_some h
    simp only [rep] at ri rx
    obtain ⟨vs, h5, hxv⟩ := rx
    obtain ⟨u, h6, h7⟩ := run_part (P := P) (w := c.w) hk h3 h5
    exact wp_value (v := u) (w' := c.w) (by simp [execOp, ho, hxv, ri, Instr.index, asIntOf, run_underlying hu, h1, h2, run_sizeT hsz, h6]) (next_out hr h7 h4)
  · exact h.elim

theorem opndO_rep {x : Option Operand} {v : Option V} (hr : RelC H c0 c env a) (h : opndO env x = some v) :
    (x = none ∧ v = none) ∨ ∃ y u, x = some y ∧ v = some u ∧ rep c u (a.eval y) := by
  cases x with
  | none => simp [opndO] at h; exact .inl ⟨rfl, h.symm⟩
  | some y =>
    simp only [opndO] at h
    split at h
    · rename_i u hu; cases h; exact .inr ⟨y, u, rfl, rfl, opnd_rep hr hu⟩
    · cases h

theorem run_sliceBound {k : IntKind} {n m : Nat} {cd : BoundsCode} {w : World} (h : n ≤ m) : (Instr.sliceBound (.int k n) m cd).run P w = .ok n w := by
  simp [Instr.sliceBound, asIntOf, h]

/-- bounds by two indices -/
theorem run_bounds2 {sl : Bool} {len cap : Nat} {lo hi : Option Operand} {lv hv : Option V} {w : World} {K' : Nat → Nat → Prop} (hr : RelC H c0 c env a)
    (h1 : opndO env lo = some lv) (h2 : opndO env hi = some hv) (h : bounds len lv hv K') (hle : len ≤ cap) :
    ∃ x y, x ≤ y ∧ y ≤ len ∧ K' x y ∧ (Instr.sliceBounds sl len cap (lo.map a.eval) (hi.map a.eval) none).run P w = .ok (x, y, cap) w := by
  obtain ⟨x, y, h3, h4, h5, h6, h7⟩ := h
  refine ⟨x, y, h5, h6, h7, ?_⟩
  rcases opndO_rep hr h1 with ⟨rfl, rfl⟩ | ⟨p, u, rfl, rfl, rp⟩
  · rcases opndO_rep hr h2 with ⟨rfl, rfl⟩ | ⟨q, v, rfl, rfl, rq⟩
    · simp only at h3 h4
      subst h3 h4
      simp [Instr.sliceBounds]
    · simp only at h3 h4
      obtain ⟨k, rfl⟩ := h4
      subst h3
      simp only [rep] at rq
      simp [Instr.sliceBounds, rq, run_sliceBound (P := P) (k := k) (w := w) (show y ≤ cap by omega)]
  · rcases opndO_rep hr h2 with ⟨rfl, rfl⟩ | ⟨q, v, rfl, rfl, rq⟩
    · simp only at h3 h4
      obtain ⟨k, rfl⟩ := h3
      subst h4
      simp only [rep] at rp
      simp [Instr.sliceBounds, rp, run_sliceBound (P := P) (k := k) (w := w) h5]
    · simp only at h3 h4
      obtain ⟨k, rfl⟩ := h3
      obtain ⟨k', rfl⟩ := h4
      simp only [rep] at rp rq
      simp [Instr.sliceBounds, rp, rq, run_sliceBound (P := P) (k := k) (w := w) h5, run_sliceBound (P := P) (k := k') (w := w) (show y ≤ cap by omega)]

theorem flat_take_drop {vs : List Value} {sz : Nat} (h : ∀ v ∈ vs, v.cells.size = sz) (x y : Nat) : flat ((vs.take y).drop x) = ((flat vs).take (y * sz)).drop (x * sz) := by
  have len : ∀ (vs : List Value), (∀ v ∈ vs, v.cells.size = sz) → ∀ n, flat (vs.take n) = (flat vs).take (n * sz) ∧ flat (vs.drop n) = (flat vs).drop (n * sz) := by
    intro vs
    induction vs with
    | nil => intro _ n; simp [flat]
    | cons v r ih =>
      intro h n
      have hv : v.cells.toList.length = sz := by simpa using h v (by simp)
      cases n with
      | zero => simp [flat]
      | succ n =>
        obtain ⟨h1, h2⟩ := ih (fun v hv => h v (by simp [hv])) n
        simp only [flat] at h1 h2
        constructor
        · simp only [List.take_succ_cons, flat, List.flatMap_cons, h1, Nat.add_mul, Nat.one_mul]
          have e1 : List.take (n * sz + sz) v.cells.toList = v.cells.toList := List.take_of_length_le (by omega)
          have e2 : n * sz + sz - v.cells.toList.length = n * sz := by omega
          rw [List.take_append, e1, e2]
        · simp only [List.drop_succ_cons, flat, List.flatMap_cons, h2, Nat.add_mul, Nat.one_mul]
          have e1 : List.drop (n * sz + sz) v.cells.toList = [] := List.drop_of_length_le (by omega)
          have e2 : n * sz + sz - v.cells.toList.length = n * sz := by omega
          rw [List.drop_append, e1, e2, List.nil_append]
  obtain ⟨h1, _⟩ := len vs h y
  obtain ⟨_, h2⟩ := len (vs.take y) (fun v hv => h v (List.mem_of_mem_take hv)) x
  rw [h2, h1]

/-- a part of a row -/
theorem SlRep.part {l : List V} {vs : List Value} {k k' : Cap} {ad : Option Addr} {n cap x y m sz : Nat} (h : SlRep c vs k ad n cap) (hx : x ≤ y) (hy : y ≤ vs.length) (hm : y ≤ m)
    (hsz : vs = [] ∨ ∀ v ∈ vs, v.cells.size = sz) (hk : k' = .any ∨ (k' = .full ∧ m = y)) :
    SlRep c ((vs.take y).drop x) k' (if m = x then ad else ad.map (·.add (x * sz))) (y - x) (m - x) where
  len := by simp; omega
  le := by omega
  full := fun hf => by rcases hk with rfl | ⟨_, rfl⟩ <;> first | (cases hf; done) | rfl
  row := by
    rcases h.row with rfl | ⟨b, off, rfl, hp⟩
    · left; simp
    · by_cases hxy : x = y
      · left; subst hxy; simp
      · right
        have hmx : m ≠ x := by omega
        refine ⟨b, off + x * sz, by simp [hmx, add_mid], ?_⟩
        rcases hsz with rfl | hsz
        · simp at hy; omega
        · rw [flat_take_drop hsz]
          intro i v hi
          have : (flat vs)[x * sz + i]? = some v := by
            rw [List.getElem?_drop, List.getElem?_take] at hi
            split at hi
            · exact hi
            · cases hi
          have := hp _ _ this
          simpa [Nat.add_assoc] using this
  size := by
    obtain ⟨s, hs⟩ := h.size
    exact ⟨s, fun v hv => hs v (List.mem_of_mem_take (List.mem_of_mem_drop hv))⟩
  known := fun t ht => by rcases hk with rfl | ⟨rfl, _⟩ <;> cases ht
  tip := fun t ht => by rcases hk with rfl | ⟨rfl, _⟩ <;> cases ht

theorem sound_slice {T : TypeId} {x : Operand} {lo hi mx : Option Operand} (ho : o.op = .slice T x lo hi mx) (hr : RelC H c0 c env a)
    (h : get (opnd env x) fun x => get (opndO env lo) fun lo => get (opndO env hi) fun hi => get (opndO env mx) fun mx =>
      match P.underlying T with
      | some .string => bif mx.isSome then False else aslS x lo hi fun v => K (put H env o.dst (.v v)) c.s
      | some (.slice e) => get (sizeT P e) fun sz => bif mx.isSome && hi.isNone then False else asl sz x lo hi mx fun v => K (put H env o.dst (.v v)) c.s
      | _ => False) : o.wp P a c.w (Next H c0 K) Q := by
  obtain ⟨xv, hx, h⟩ := get_some h
  obtain ⟨lv, hlo, h⟩ := get_some h
  obtain ⟨hv, hhi, h⟩ := get_some h
  obtain ⟨mv, hmx, h⟩ := get_some h
  have rx := opnd_rep hr hx
  split at h
  · rename_i hu
    cases mv with
    | some m => simp at h
    | none =>
      simp only [Option.isSome_none, cond_false] at h
      obtain ⟨s, rfl, hb⟩ := h
      have hmx0 : mx = none := by
        rcases opndO_rep hr hmx with ⟨h1, _⟩ | ⟨_, _, _, h2, _⟩
        · exact h1
        · cases h2
      subst hmx0
      simp only [rep] at rx
      obtain ⟨p, q, h1, h2, h3, hrun⟩ := run_bounds2 (P := P) (sl := false) (w := c.w) hr hlo hhi hb (Nat.le_refl _)
      exact wp_value (v := .string (s.extract p q)) (w' := c.w) (by simp [execOp, ho, rx, Instr.sliceAt, Instr.slice, run_underlying hu, hrun]) (next_out hr rep_str h3)
  · rename_i e hu
    obtain ⟨sz, hsz, h⟩ := get_some h
    have hg : (mv.isSome && hv.isNone) = false := by
      cases hq : (mv.isSome && hv.isNone) with
      | false => rfl
      | true => simp [hq] at h
    simp only [hg, cond_false] at h
    have hcase : (∃ l k, xv = .sl l k) ∨ ∃ id sz' off len, xv = .vw id sz' off len := by
      cases xv <;> first | exact h.elim | exact .inl ⟨_, _, rfl⟩ | exact .inr ⟨_, _, _, _, rfl⟩
    rcases hcase with ⟨l, k, rfl⟩ | ⟨id, sz', off, len, rfl⟩
    rotate_left
    · obtain ⟨rfl, hb⟩ := h
      simp only [rep] at rx
      -- the slice's length and capacity, and where it lies
      have hx' : ∃ ad cap, a.eval x = .slice ad len cap ∧ len ≤ cap ∧ ((len = 0 ∧ cap = 0) ∨ ∃ b e' sh, c.g id = some (b, e') ∧ ad = some ⟨b, e' + off * sz', none⟩ ∧ 0 < sz' ∧ c.w.shape? b = some sh ∧ e' + off * sz' + cap * sz' ≤ sh.2) := by
        rcases rx with ⟨rfl, ad, hxv⟩ | ⟨b, e', cap, sh, g1, hxv, h0, h4, h5, h6⟩
        · exact ⟨ad, 0, hxv, Nat.le_refl _, .inl ⟨rfl, rfl⟩⟩
        · exact ⟨_, cap, hxv, h4, .inr ⟨b, e', sh, g1, rfl, h0, h5, h6⟩⟩
      obtain ⟨ad, cap, hxv, hle, hor⟩ := hx'
      -- what comes of it stands for the part
      have fin : ∀ (p q top : Nat), p ≤ q → q ≤ len → q ≤ top → top ≤ cap → rep c (.vw id sz' (off + p) (q - p)) (.slice (if top = p then ad else ad.map (·.add (p * sz'))) (q - p) (top - p)) := by
        intro p q top hpq hq hqt htc
        simp only [rep]
        by_cases htp : top = p
        · left
          rw [if_pos htp]
          exact ⟨by omega, ad, by congr 1 <;> omega⟩
        · rcases hor with ⟨h1, h2⟩ | ⟨b, e', sh, g1, rfl, h0, h5, h6⟩
          · omega
          · right
            refine ⟨b, e', top - p, sh, g1, by simp [htp, add_mid, Nat.add_mul, Nat.add_assoc], h0, by omega, h5, ?_⟩
            have h7 : (p + (top - p)) * sz' ≤ cap * sz' := Nat.mul_le_mul_right _ (by omega)
            rw [Nat.add_mul] at h7
            rw [Nat.add_mul]
            omega
      rcases opndO_rep hr hmx with ⟨rfl, rfl⟩ | ⟨my, mu, rfl, rfl, rm⟩
      · have hb' : bounds len lv hv fun p q => p ≤ q ∧ q ≤ len ∧ K (put H env o.dst (.v (.vw id sz' (off + p) (q - p)))) c.s := by
          obtain ⟨p, q, h1, h2, h3, h4, h7, h8⟩ := hb
          exact ⟨p, q, h1, h2, h3, h4, h3, h4, h8⟩
        obtain ⟨p, q, h1, h2, ⟨h3, h4, h8⟩, hrun⟩ := run_bounds2 (P := P) (sl := true) (w := c.w) hr hlo hhi hb' hle
        exact wp_value (v := .slice (if cap = p then ad else ad.map (·.add (p * sz'))) (q - p) (cap - p)) (w' := c.w) (by simp [execOp, ho, hxv, Instr.sliceAt, Instr.slice, run_underlying hu, hrun, run_sizeT hsz])
          (next_out hr (fin p q cap h3 h4 (by omega) (Nat.le_refl _)) h8)
      · obtain ⟨p, q, h1, h2, h3, h4, ⟨km, rfl⟩, h8⟩ := hb
        simp only [rep] at rm
        rcases opndO_rep hr hhi with ⟨rfl, rfl⟩ | ⟨hy, hu', rfl, rfl, rh⟩
        · simp at hg
        · simp only at h2
          obtain ⟨kh, rfl⟩ := h2
          simp only [rep] at rh
          have hrun : (Instr.sliceBounds true len cap (lo.map a.eval) (some (a.eval hy)) (some (a.eval my))).run P c.w = .ok (p, q, q) c.w := by
            rcases opndO_rep hr hlo with ⟨rfl, rfl⟩ | ⟨py, pu, rfl, rfl, rp⟩
            · simp only at h1
              subst h1
              simp [Instr.sliceBounds, rm, rh, run_sliceBound (P := P) (k := km) (w := c.w) (show q ≤ cap by omega), run_sliceBound (P := P) (k := kh) (w := c.w) (Nat.le_refl q)]
            · simp only at h1
              obtain ⟨kl, rfl⟩ := h1
              simp only [rep] at rp
              simp [Instr.sliceBounds, rm, rh, rp, run_sliceBound (P := P) (k := km) (w := c.w) (show q ≤ cap by omega), run_sliceBound (P := P) (k := kh) (w := c.w) (Nat.le_refl q), run_sliceBound (P := P) (k := kl) (w := c.w) h3]
          exact wp_value (v := .slice (if q = p then ad else ad.map (·.add (p * sz'))) (q - p) (q - p)) (w' := c.w) (by simp [execOp, ho, hxv, Instr.sliceAt, Instr.slice, run_underlying hu, hrun, run_sizeT hsz])
            (next_out hr (fin p q q h3 h4 (Nat.le_refl _) (by omega)) h8)
    obtain ⟨hall, hb⟩ := h
    simp only [rep] at rx
    obtain ⟨vs, ad, n, cap, h5, hxv, h6⟩ := rx
    have hlen := repL_length h5
    have hvs : ∀ v ∈ vs, v.cells.size = sz := by
      intro v hv'
      obtain ⟨i, hi'⟩ := List.getElem?_of_mem hv'
      have hlt : i < l.length := by have := (List.getElem?_eq_some_iff.1 hi').1; omega
      obtain ⟨u, hu1, hu2⟩ := repL_get h5 (List.getElem?_eq_getElem hlt)
      rw [hi'] at hu1; cases hu1
      have := repL_length (rep_cells hu2)
      rw [hall _ (List.getElem_mem hlt)] at this
      simpa using this
    have hn : n = l.length := by rw [h6.len, hlen]
    rcases opndO_rep hr hmx with ⟨rfl, rfl⟩ | ⟨my, mu, rfl, rfl, rm⟩
    · have hb' : bounds n lv hv fun p q => K (put H env o.dst (.v (.sl ((l.take q).drop p) .any))) c.s := by
        rw [hn]
        obtain ⟨p, q, h1, h2, h3, h4, h7, h8⟩ := hb
        exact ⟨p, q, h1, h2, h3, h4, h8⟩
      obtain ⟨p, q, h1, h2, h3, hrun⟩ := run_bounds2 (P := P) (sl := true) (w := c.w) hr hlo hhi hb' h6.le
      refine wp_value (v := .slice (if cap = p then ad else ad.map (·.add (p * sz))) (q - p) (cap - p)) (w' := c.w) (by simp [execOp, ho, hxv, Instr.sliceAt, Instr.slice, run_underlying hu, hrun, run_sizeT hsz])
        (next_out hr ?_ h3)
      simp only [rep]
      exact ⟨_, _, _, _, repL_drop p (repL_take q h5), rfl, h6.part (l := l) h1 (by rw [← h6.len]; exact h2) (by have := h6.le; omega) (.inr hvs) (.inl rfl)⟩
    · obtain ⟨p, q, h1, h2, h3, h4, ⟨km, rfl⟩, h8⟩ := hb
      simp only [rep] at rm
      rcases opndO_rep hr hhi with ⟨rfl, rfl⟩ | ⟨hy, hu', rfl, rfl, rh⟩
      · simp at hg
      · simp only at h2
        obtain ⟨kh, rfl⟩ := h2
        simp only [rep] at rh
        have hrun : (Instr.sliceBounds true n cap (lo.map a.eval) (some (a.eval hy)) (some (a.eval my))).run P c.w = .ok (p, q, q) c.w := by
          rcases opndO_rep hr hlo with ⟨rfl, rfl⟩ | ⟨py, pu, rfl, rfl, rp⟩
          · simp only at h1
            subst h1
            simp [Instr.sliceBounds, rm, rh, run_sliceBound (P := P) (k := km) (w := c.w) (show q ≤ cap by have := h6.le; omega), run_sliceBound (P := P) (k := kh) (w := c.w) (Nat.le_refl q)]
          · simp only at h1
            obtain ⟨kl, rfl⟩ := h1
            simp only [rep] at rp
            simp [Instr.sliceBounds, rm, rh, rp, run_sliceBound (P := P) (k := km) (w := c.w) (show q ≤ cap by have := h6.le; omega), run_sliceBound (P := P) (k := kh) (w := c.w) (Nat.le_refl q), run_sliceBound (P := P) (k := kl) (w := c.w) h3]
        refine wp_value (v := .slice (if q = p then ad else ad.map (·.add (p * sz))) (q - p) (q - p)) (w' := c.w) (by simp [execOp, ho, hxv, Instr.sliceAt, Instr.slice, run_underlying hu, hrun, run_sizeT hsz])
          (next_out hr ?_ h8)
        simp only [rep]
        exact ⟨_, _, _, _, repL_drop p (repL_take q h5), rfl, h6.part (l := l) h3 (by omega) (Nat.le_refl q) (.inr hvs) (.inr ⟨rfl, rfl⟩)⟩
  · exact h.elim

end
end Go.Proofs.YtdeondiigpidnaaGreat.Ab
end

section
set_option linter.unusedVariables false
set_option linter.unusedSimpArgs false
/- Soundness of operations: structs and lists that are written out, length, greatest and least. -/
namespace Go.Proofs.YtdeondiigpidnaaGreat.Ab
open Go
set_option linter.unusedSectionVars false
variable [Fwd]
set_option linter.unusedVariables false
set_option linter.unusedSimpArgs false

section
variable {P : Program} {H : Hints} {c0 c : Ctx} {env : Env} {a : Act} {o : Oper} {K : Cont} {Q : Exit → Act → World → Prop}

theorem foldl_set_list (off : Nat) : ∀ (vs : List Value) (i : Nat) (cs : Array Value), off + i + vs.length ≤ cs.size →
    ((vs.zipIdx i).foldl (fun (cs : Array Value) (x : Value × Nat) => cs.setIfInBounds (off + x.2) x.1) cs).toList = cs.toList.take (off + i) ++ vs ++ cs.toList.drop (off + i + vs.length)
  | [], i, cs, h => by simp
  | v :: r, i, cs, h => by
    simp only [List.zipIdx_cons, List.foldl_cons]
    have hlt : off + i < cs.size := by simp at h; omega
    rw [foldl_set_list off r (i + 1) _ (by simp at h ⊢; omega)]
    have e := list_seg_step cs.toList (off + i) v r (by simp at h ⊢; omega)
    simpa [Array.toList_setIfInBounds, Nat.add_assoc] using e

theorem fill_wr {off : Nat} {vs cs : Array Value} (h : off + vs.size ≤ cs.size) :
    (vs.zipIdx.foldl (fun (cs : Array Value) (x : Value × Nat) => cs.setIfInBounds (off + x.2) x.1) cs).toList = cs.toList.take off ++ vs.toList ++ cs.toList.drop (off + vs.size) := by
  have := foldl_set_list off vs.toList 0 cs (by simpa using h)
  rw [← Array.foldl_toList]
  simpa using this

theorem parts_rep (hr : RelC H c0 c env a) {place : Nat → Option (Nat × Nat)} {pl : List (Nat × Nat)} (hp : ∀ i, place i = pl[i]?) :
    ∀ (ps : List (Nat × Operand)) (l : List (Nat × Nat × V)) (z cs : List V) (zv : Array Value), parts pl env ps = some l → fillV l z = some cs → repL c z zv.toList →
      ∃ cv, Instr.fill place zv (ps.map fun p => (p.1, a.eval p.2)) = some cv ∧ repL c cs cv.toList
  | [], l, z, cs, zv, h, hf, hz => by
    simp [parts] at h; subst h
    simp [fillV] at hf; subst hf
    exact ⟨zv, rfl, hz⟩
  | (i, x) :: r, l, z, cs, zv, h, hf, hz => by
    unfold parts at h
    split at h
    · rename_i off n v l' h1 h2 h3
      cases h
      unfold fillV at hf
      split at hf
      · rename_i hc
        obtain ⟨e1, e2, e3⟩ := hc
        have rv := rep_cells (opnd_rep hr h2)
        have hlv : (a.eval x).cells.size = n := by have := repL_length rv; rw [e1] at this; simpa using this
        have hlz : zv.size = z.length := by have := repL_length hz; simpa using this
        have hw := wr_rep (off := off) hz rv
        have hle : off + (a.eval x).cells.size ≤ zv.size := by omega
        have heq := fill_wr hle
        obtain ⟨cv, h4, h5⟩ := parts_rep hr hp r l' _ cs ((a.eval x).cells.zipIdx.foldl (fun (cs : Array Value) (x : Value × Nat) => cs.setIfInBounds (off + x.2) x.1) zv) h3 hf (by
          rw [heq]
          simpa using hw)
        refine ⟨cv, ?_, h5⟩
        simp only [List.map_cons, Instr.fill, hp, h1, hlv, ne_eq, not_true_eq_false, decide_false, Bool.false_or]
        have hnot : ¬ (off + n > zv.size) := by omega
        simpa [hnot] using h4
      · cases hf
    · cases h

theorem placesOf_run {w : World} : ∀ {fs : List Field} {pl : List (Nat × Nat)}, placesOf P fs = some pl →
    (fs.mapM (fun f => do pure (f.offset, ← sizeOf f.type) : Field → Sem (Nat × Nat))).run P w = .ok pl w
  | [], pl, h => by simp [placesOf] at h; subst h; simp
  | f :: r, pl, h => by
    unfold placesOf at h
    split at h
    · rename_i n l h1 h2
      cases h
      have ih := placesOf_run (w := w) h2
      simp only [List.mapM_cons, Sem.run_bind, run_sizeT h1, Result.andThen_ok, Sem.run_pure, ih]
    · cases h

theorem sound_build {T : TypeId} {ps : Array (Nat × Operand)} (ho : o.op = .build T ps) (hr : RelC H c0 c env a)
    (h : get (placesT P T) fun pl => get (zeroT P T) fun z => get (parts pl env ps.toList) fun l => must (fillV l z.cells) fun cs => K (put H env o.dst (.v (.agg cs))) c.s) :
    o.wp P a c.w (Next H c0 K) Q := by
  obtain ⟨pl, h1, h⟩ := get_some h
  obtain ⟨z, h2, h⟩ := get_some h
  obtain ⟨l, h3, cs, h4, h5⟩ := get_some h
  obtain ⟨zv, hz, hzr⟩ := zeroT_run h2
  unfold placesT at h1
  split at h1
  · rename_i fs hu
    have hpl := placesOf_run (w := c.w) h1
    obtain ⟨cv, h6, h7⟩ := parts_rep hr (place := fun i => (pl.toArray)[i]?) (pl := pl) (by simp) ps.toList l _ cs zv.cells h3 h4 (rep_cells (ofValue_rep c hz))
    have hm : (fs.mapM (fun f => do pure (f.offset, ← sizeOf f.type) : Field → Sem (Nat × Nat))).run P c.w = .ok pl.toArray c.w := by
      rw [Array.mapM_eq_mapM_toList]
      simp only [Sem.run_map, hpl, Result.andThen_ok]
    refine wp_value (v := .agg cv) (w' := c.w) ?_ (next_out hr (by simp only [rep]; exact ⟨_, h7, by simp⟩) h5)
    have h6' : Instr.fill (fun x => pl.toArray[x]?) zv.cells (ps.map fun (p : Nat × Operand) => (p.1, a.eval p.2)).toList = some cv := by simpa using h6
    simp only [execOp, ho, Instr.build, Sem.run_bind, hzr, Result.andThen_ok, run_underlying hu, hm, h6', Sem.run_pure]
  · cases h1

theorem elems_fill (hr : RelC H c0 c env a) {sz : Nat} : ∀ (ps : List (Nat × Operand)) (l : List V) (k : Nat) (z : Array Value), elems env k ps = some l → allFit sz l → (k + l.length) * sz ≤ z.size →
    ∃ cv vs, Instr.fill (fun i => some (i * sz, sz)) z (ps.map fun p => (p.1, a.eval p.2)) = some cv ∧ repL c l vs ∧ (∀ v ∈ vs, v.cells.size = sz) ∧
      cv.toList = z.toList.take (k * sz) ++ flat vs ++ z.toList.drop ((k + l.length) * sz)
  | [], l, k, z, h, _, hle => by
    simp [elems] at h; subst h
    exact ⟨z, [], rfl, by simp [repL], by simp, by simp [flat]⟩
  | (i, x) :: r, l, k, z, h, hf, hle => by
    unfold elems at h
    cases hb : Nat.beq i k with
    | false => simp [hb] at h
    | true =>
      have hik := Nat.eq_of_beq_eq_true hb
      subst hik
      simp only [hb, cond_true] at h
      split at h
      · rename_i v l' h1 h2
        cases h
        obtain ⟨hfv, hfr⟩ := hf
        have rv := opnd_rep hr h1
        have hsv : (a.eval x).cells.size = sz := by have := repL_length (rep_cells rv); rw [hfv.1] at this; simpa using this
        have hmul : (i + (l'.length + 1)) * sz = i * sz + sz + l'.length * sz := by rw [Nat.add_mul, Nat.add_mul, Nat.one_mul]; omega
        have hmul' : (i + 1 + l'.length) * sz = i * sz + sz + l'.length * sz := by rw [Nat.add_mul, Nat.add_mul, Nat.one_mul]
        simp only [List.length_cons] at hle
        rw [hmul] at hle
        have hle1 : i * sz + (a.eval x).cells.size ≤ z.size := by omega
        have heq := fill_wr hle1
        have hsz : ((a.eval x).cells.zipIdx.foldl (fun (cs : Array Value) (x : Value × Nat) => cs.setIfInBounds (i * sz + x.2) x.1) z).size = z.size := by
          rw [← Array.length_toList, heq]
          simp
          omega
        obtain ⟨cv, vs, h3, h4, h5, h6⟩ := elems_fill hr r l' (i + 1) _ h2 hfr (by rw [hsz, hmul']; omega)
        refine ⟨cv, a.eval x :: vs, ?_, by simp only [repL]; exact ⟨_, _, rfl, rv, h4⟩, ?_, ?_⟩
        · have hnot : ¬ (i * sz + sz > z.size) := by omega
          simp only [List.map_cons, Instr.fill, hsv, ne_eq, not_true_eq_false, decide_false, Bool.false_or, hnot]
          simpa using h3
        · intro u hu
          rcases List.mem_cons.1 hu with rfl | hu
          · exact hsv
          · exact h5 u hu
        · rw [h6, heq]
          have e1 : (i + 1) * sz = i * sz + sz := by rw [Nat.add_mul, Nat.one_mul]
          have hlz : z.toList.length = z.size := by simp
          have htk : (z.toList.take (i * sz)).length = i * sz := by simp; omega
          have hct : (a.eval x).cells.toList.length = sz := by simpa using hsv
          simp only [List.length_cons, hmul, hmul', e1]
          have t1 : (z.toList.take (i * sz) ++ (a.eval x).cells.toList ++ z.toList.drop (i * sz + (a.eval x).cells.size)).take (i * sz + sz) = z.toList.take (i * sz) ++ (a.eval x).cells.toList := by
            rw [List.take_append_of_le_length (by simp; omega), List.take_of_length_le (by simp; omega)]
          have t2 : (z.toList.take (i * sz) ++ (a.eval x).cells.toList ++ z.toList.drop (i * sz + (a.eval x).cells.size)).drop (i * sz + sz + l'.length * sz) = z.toList.drop (i * sz + sz + l'.length * sz) := by
            rw [List.drop_append]
            have : (z.toList.take (i * sz) ++ (a.eval x).cells.toList).length = i * sz + sz := by simp; omega
            rw [List.drop_of_length_le (by rw [this]; omega), this, List.nil_append, List.drop_drop, hsv]
            congr 1; omega
          rw [t1, t2]
          simp [flat]
      · cases h

theorem flat_rows {c : Ctx} {b : Nat} {vs : List Value} {T : TypeId} {n : Nat} {fr : Nat × Nat} {cs : Array Value} (hb : c.w.heap[b]? = some (.cells cs T fr)) (hc : ∀ (i : Nat) v, (flat vs)[i]? = some v → cs[i]? = some v)
    (hi : ∀ i, c.imm b i) : placed c b 0 (flat vs) := by
  intro i v hv
  exact ⟨by simp [World.cell?, hb, hc i v hv], hi _⟩

theorem sound_buildSlice {T : TypeId} {n : Nat} {ps : Array (Nat × Operand)} (ho : o.op = .buildSlice T n ps) (hr : RelC H c0 c env a)
    (h : get (elemT P T) fun e => get (zeroT P e) fun _ => get (sizeT P e) fun sz => get (elems env 0 ps.toList) fun l =>
      bif Nat.ble (n * sz) 16777216 && Nat.beq l.length n then allFit sz l ∧ K (put H env o.dst (.v (.sl l .full))) c.s else False) :
    o.wp P a c.w (Next H c0 K) Q := by
  obtain ⟨e, h1, h⟩ := get_some h
  obtain ⟨z, h2, h⟩ := get_some h
  obtain ⟨sz, h3, h⟩ := get_some h
  obtain ⟨l, h4, h⟩ := get_some h
  cases hb : (Nat.ble (n * sz) 16777216 && Nat.beq l.length n) with
  | false => simp [hb] at h
  | true =>
    simp only [hb, cond_true] at h
    simp only [Bool.and_eq_true] at hb
    have hle : n * sz ≤ 16777216 := Nat.le_of_ble_eq_true hb.1
    have hn : l.length = n := Nat.eq_of_beq_eq_true hb.2
    obtain ⟨h5, h6⟩ := h
    obtain ⟨zv, hz, hzr⟩ := zeroT_run h2
    have hu := elemT_spec h1
    have main : ∀ zc : Array Value, ((n * sz = 0 ∧ zc = #[]) ∨ (n * sz ≠ 0 ∧ zc = zv.cells)) → o.wp P a c.w (Next H c0 K) Q := by
      intro zc hzc
      obtain ⟨cv, vs, h7, h8, h9, h10⟩ := elems_fill hr ps.toList l 0 ((Array.range (n * sz)).map (zc[· % zc.size]!)) h4 h5 (by simp [hn])
      have hcv : cv.toList = flat vs := by rw [h10]; simp [hn]
      have hlen := repL_length h8
      have hst : Step c0 c (c.pushed (.cells cv e)) := Step.of_evo hr.r (Evo.pushed _) (hr.r.pushed _) rfl
      have himm : ∀ i, (c.pushed (.cells cv e)).imm c.w.heap.size i := fun i => by
        refine ⟨fun hN => Nat.lt_irrefl _ (hr.r.nb _ hN), fun id ob e' hs hg => ?_⟩
        have := hr.r.gb id _ _ hg
        exact absurd this (Nat.lt_irrefl _)
      refine wp_value (v := .slice (some ⟨c.w.heap.size, 0, none⟩) n n) (w' := World.pushed c.w (.cells cv e)) ?_
        ⟨_, _, h6, c.pushed (.cells cv e), rfl, rfl, (hr.step hst).put (x := .v (.sl l .full)) ?_⟩
      · have h7' : Instr.fill (fun i => some (i * sz, sz)) ((Array.range (n * sz)).map (zc[· % zc.size]!)) (ps.map fun (p : Nat × Operand) => (p.1, a.eval p.2)).toList = some cv := by simpa using h7
        have hnot : ¬ (n * sz > 2 ^ 24) := by omega
        rcases hzc with ⟨h0, rfl⟩ | ⟨h0, rfl⟩
        · simp only [execOp, ho, Instr.buildSlice, Sem.run_bind, run_underlying hu, Result.andThen_ok, run_sizeT h3, hnot, if_false, h0, if_true, Sem.run_pure]
          rw [h0] at h7'
          have hz0 : ¬ (0 > 2 ^ 24) := by omega
          simp only [hz0, if_false, Sem.run_bind, Sem.run_pure, Result.andThen_ok, h7', newRow, Sem.run_bind, run_newObj, Result.andThen_ok, Sem.run_pure]
          rfl
        · simp only [execOp, ho, Instr.buildSlice, Sem.run_bind, run_underlying hu, Result.andThen_ok, run_sizeT h3, hnot, if_false, h0, hzr, Sem.run_pure]
          simp only [h7', newRow, Sem.run_bind, run_newObj, Result.andThen_ok, Sem.run_pure]
          rfl
      · simp only [slotOk, rep]
        refine ⟨vs, some ⟨c.w.heap.size, 0, none⟩, n, n, repL_ext hst.ext _ _ h8, rfl, by omega, Nat.le_refl _, fun _ => rfl, .inr ⟨_, _, rfl, ?_⟩, ⟨sz, h9⟩, by simp, by simp⟩
        refine flat_rows (T := e) (n := n) (fr := (0, 0)) (cs := cv) (by simpa [Ctx.pushed] using push_at) (fun i v hv => ?_) himm
        rw [← hcv] at hv
        simpa using hv
    by_cases h0 : n * sz = 0
    · exact main #[] (.inl ⟨h0, rfl⟩)
    · exact main zv.cells (.inr ⟨h0, rfl⟩)

theorem run_len {T : TypeId} {x : V} {xv : Value} {ty : TypeId} {K' : V → Prop} {ats : Array TypeId} (hR : R c) (hx : rep c x xv) (h : alen (P.underlying T) x c.s K') (hT : ats[0]? = some T) :
    ∃ n : Nat, (Builtin.len_ ats ty #[xv]).run P c.w = .ok (.int .i64 n) c.w ∧ K' (.int .i64 n) := by
  unfold alen at h
  split at h
  · rename_i e hu
    split at h
    · simp only [rep] at hx
      obtain ⟨vs, ad, n, cap, h1, rfl, h2⟩ := hx
      rename_i l k
      have hn : n = l.length := by rw [h2.len, repL_length h1]
      exact ⟨n, by simp [Builtin.len_, hT, run_underlying hu, goInt], hn ▸ h⟩
    · rename_i id sz off len
      have : ∃ ad cap, xv = .slice ad len cap := by
        simp only [rep] at hx
        rcases hx with ⟨rfl, ad, rfl⟩ | ⟨_, _, _, _, _, rfl, _⟩ <;> exact ⟨_, _, rfl⟩
      obtain ⟨ad, cap, rfl⟩ := this
      exact ⟨len, by simp [Builtin.len_, hT, run_underlying hu, goInt], h⟩
    · exact h.elim
  · rename_i hu
    obtain ⟨s, rfl, h⟩ := h
    simp only [rep] at hx
    subst hx
    exact ⟨s.size, by simp [Builtin.len_, hT, run_underlying hu, goInt], h⟩
  · rename_i k e hu
    obtain ⟨l, h1, h⟩ := h
    rcases theMap_rep hR h1 hx with ⟨rfl, rfl⟩ | ⟨b, es, clock, rfl, h2, h3⟩
    · exact ⟨0, by simp [Builtin.len_, hT, run_underlying hu, goInt], h⟩
    · have hl : es.size = l.length := by have := repM_length h3; simpa using this
      refine ⟨es.size, ?_, hl ▸ h⟩
      have hg : (getObj b).run P c.w = .ok (.map es clock) c.w := by simp [getObj, Sem.run, h2]
      simp [Builtin.len_, hT, run_underlying hu, hg, goInt]
  · exact h.elim

end
end Go.Proofs.YtdeondiigpidnaaGreat.Ab
end

section
set_option linter.unusedVariables false
set_option linter.unusedSimpArgs false
/- Soundness of operations: append. -/
namespace Go.Proofs.YtdeondiigpidnaaGreat.Ab
open Go
set_option linter.unusedSectionVars false
variable [Fwd]
set_option linter.unusedVariables false
set_option linter.unusedSimpArgs false

section
variable {P : Program} {H : Hints} {c0 c : Ctx} {env : Env} {a : Act} {o : Oper} {K : Cont} {Q : Exit → Act → World → Prop}

theorem growBy_le (n : Nat) : ∀ (r c : Nat), Builtin.growBy n r c ≤ max c (n + (n + 768) / 4)
  | 0, c => by simp [Builtin.growBy]; omega
  | r + 1, c => by
    unfold Builtin.growBy
    split
    · omega
    · have := growBy_le n r (c + (c + 768) / 4); omega

theorem nextslicecap_le {n c : Nat} (h : c < n) : Builtin.nextslicecap n c ≤ 2 * n + 192 := by
  unfold Builtin.nextslicecap
  split
  · omega
  · split
    · omega
    · have := growBy_le n 4 c; omega

theorem flat_length {vs : List Value} {sz : Nat} (h : ∀ v ∈ vs, v.cells.size = sz) : (flat vs).length = vs.length * sz := by
  induction vs with
  | nil => simp [flat]
  | cons v r ih =>
    have h1 := ih (fun v hv => h v (by simp [hv]))
    have h2 := h v (by simp)
    simp only [flat] at h1 ⊢
    simp only [List.flatMap_cons, List.length_append, h1, List.length_cons, Array.length_toList, h2, Nat.add_mul, Nat.one_mul]
    omega

theorem flat_append (vs ws : List Value) : flat (vs ++ ws) = flat vs ++ flat ws := by simp [flat]

theorem run_firstCells {vs : List Value} {k : Cap} {ad : Option Addr} {n cap sz : Nat} (h : SlRep c vs k ad n cap) (hsz : ∀ v ∈ vs, v.cells.size = sz) :
    (Builtin.firstCells sz n (.slice ad n cap)).run P c.w = .ok (flat vs).toArray c.w := by
  rcases h.row with rfl | ⟨b, off, rfl, hp⟩
  · have hn := h.len
    simp at hn; subst hn
    cases ad with
    | none => simp [Builtin.firstCells, flat]
    | some ad => simp [Builtin.firstCells, loadCells, loadCellsFrom, flat]
  · have hl := flat_length hsz
    have := run_loadCells_list (P := P) c.w ⟨b, off, none⟩ (flat vs) (fun j v hj => by rw [add_mid]; exact (hp j v hj).1)
    rw [hl, ← h.len] at this
    simpa [Builtin.firstCells] using this

theorem allFit_all {sz : Nat} : ∀ {l : List V}, allFit sz l → ∀ e ∈ l, fits e sz
  | [], _, e, he => by simp at he
  | x :: r, ⟨h1, h2⟩, e, he => by
    rcases List.mem_cons.1 he with rfl | he
    · exact h1
    · exact allFit_all h2 e he

theorem sizes_of {l : List V} {vs : List Value} {sz : Nat} (h : repL c l vs) (hs : ∀ e ∈ l, e.cells.length = sz) : ∀ v ∈ vs, v.cells.size = sz := by
  intro v hv
  obtain ⟨i, hi⟩ := List.getElem?_of_mem hv
  have hlen := repL_length h
  have hlt : i < l.length := by have := (List.getElem?_eq_some_iff.1 hi).1; omega
  obtain ⟨u, hu1, hu2⟩ := repL_get h (List.getElem?_eq_getElem hlt)
  rw [hi] at hu1; cases hu1
  have := repL_length (rep_cells hu2)
  rw [hs _ (List.getElem_mem hlt)] at this
  simpa using this

theorem flat_ones {l : List V} {vs : List Value} (h : repL c l vs) (hs : ∀ e ∈ l, e.cells.all V.one = true) : ∀ u ∈ flat vs, u.oneCell' = true := by
  intro u hu
  simp only [flat, List.mem_flatMap] at hu
  obtain ⟨v, hv, hu⟩ := hu
  obtain ⟨i, hi⟩ := List.getElem?_of_mem hv
  have hlen := repL_length h
  have hlt : i < l.length := by have := (List.getElem?_eq_some_iff.1 hi).1; omega
  obtain ⟨w, hw1, hw2⟩ := repL_get h (List.getElem?_eq_getElem hlt)
  rw [hi] at hw1; cases hw1
  exact repL_ones (rep_cells hw2) (hs _ (List.getElem_mem hlt)) u hu

theorem zeroCells_size (z : Array Value) (n : Nat) : (Builtin.zeroCells z n).size = n * z.size := by simp [Builtin.zeroCells]

/-- append, in new memory -/
theorem next_realloc {l l' : List V} {vs vs' : List Value} {sz : Nat} {e : TypeId} {rest : Array Value} {newCap : Nat} {w' : World} {s1 : Store} {t : Nat} {d : Option Tmp}
    (hr : RelC H c0 c env a) (hw : w'.heap = c.w.heap) (hos : w'.os = c.w.os) (hout : Onw c.w w') (hs1 : s1.le c.s) (hg : c.g t = none)
    (h1 : repL c l vs) (h2 : repL c l' vs') (hz1 : ∀ v ∈ vs, v.cells.size = sz) (hz2 : ∀ v ∈ vs', v.cells.size = sz)
    (hcap : vs.length + vs'.length ≤ newCap) (hrest : rest.size = (newCap - (vs.length + vs'.length)) * sz)
    (hk : K (put H env d (.v (.sl (l ++ l') (.tip t)))) (s1.upd t (.tip sz))) :
    Next H c0 K (a.put d (.slice (some ⟨w'.heap.size, 0, none⟩) (vs.length + vs'.length) newCap)) (World.pushed w' (.cells ((flat vs).toArray ++ (flat vs').toArray ++ rest) e)) := by
  -- the world has drawn, the store has less
  let c1 : Ctx := { c with s := s1, w := w' }
  have e1 : Evo c c1 := ⟨(Ext.less hs1).trans (Ext.same (c := { c with s := s1 }) hw), fun b hb _ => by simp [c1, hw], hos, hout⟩
  have r1 : R c1 := R.same (c := { c with s := s1 }) (hr.r.less hs1) hw
  let blk : Go.Obj := .cells ((flat vs).toArray ++ (flat vs').toArray ++ rest) e
  have hl : (flat (vs ++ vs')).length = (vs.length + vs'.length) * sz := by
    rw [flat_append, List.length_append, flat_length hz1, flat_length hz2, Nat.add_mul]
  have hat : (c1.newObj t ((vs.length + vs'.length) * sz) (.tip sz) blk).w.heap[c1.w.heap.size]? = some blk := by simpa [Ctx.newObj] using push_at
  have hsize : ((flat vs).toArray ++ (flat vs').toArray ++ rest).size = newCap * sz := by
    have h3 := flat_length hz1
    have h4 := flat_length hz2
    simp only [Array.size_append, List.size_toArray, h3, h4, hrest]
    rw [← Nat.add_mul, ← Nat.add_mul]
    congr 1; omega
  have hrep : objRep (c1.newObj t ((vs.length + vs'.length) * sz) (.tip sz) blk) c1.w.heap.size ((vs.length + vs'.length) * sz) (.tip sz) :=
    ⟨_, e, hat, by rw [hsize]; exact Nat.mul_le_mul_right _ hcap⟩
  have hg1 : c1.g t = none := hg
  have e2 := Evo.newObj r1 (e := (vs.length + vs'.length) * sz) (o := .tip sz) (co := blk) hg1
  have r2 := R.newObj r1 hg1 hrep
  have hst1 : Step c0 c c1 := Step.of_evo hr.r e1 r1 rfl
  have hr1 := hr.step hst1
  have hst2 : Step c0 c1 _ := Step.of_evo r1 e2 r2 rfl
  refine ⟨_, _, hk, c1.newObj t ((vs.length + vs'.length) * sz) (.tip sz) blk, rfl, rfl, (hr1.step hst2).put (x := .v (.sl (l ++ l') (.tip t))) ?_⟩
  simp only [slotOk, rep]
  refine ⟨vs ++ vs', _, _, _, repL_ext e2.ext _ _ (repL_ext e1.ext _ _ (repL_append h1 h2)), rfl, ?_⟩
  have himm : ∀ i, i < (vs.length + vs'.length) * sz → (c1.newObj t ((vs.length + vs'.length) * sz) (.tip sz) blk).imm c1.w.heap.size i := fun i hi => by
    refine ⟨fun hN => Nat.lt_irrefl _ (r1.nb _ hN), fun id ob e' hs hg' => ?_⟩
    by_cases hid : id = t
    · subst hid
      have q1 : some (c1.w.heap.size, (vs.length + vs'.length) * sz) = some (c1.w.heap.size, e') := by simpa [Ctx.newObj] using hg'
      cases q1
      exact ⟨⟨sz, by simpa [Ctx.newObj, Store.upd] using hs.symm⟩, hi⟩
    · have : c1.g id = some (c1.w.heap.size, e') := by simpa [Ctx.newObj, hid] using hg'
      exact absurd (r1.gb id _ _ this) (Nat.lt_irrefl _)
  refine ⟨by simp, hcap, fun h => (by cases h), .inr ⟨_, _, rfl, fun i v hv => ⟨?_, ?_⟩⟩, ⟨sz, fun v hv => ?_⟩, fun t' ht' => ?_, fun t' ht' sz' hs' => ?_⟩
  · have hlt : i < (flat (vs ++ vs')).length := (List.getElem?_eq_some_iff.1 hv).1
    show (c1.newObj t ((vs.length + vs'.length) * sz) (.tip sz) blk).w.cell? ⟨c1.w.heap.size, 0 + i, none⟩ = some v
    simp only [World.cell?, hat, blk, Nat.zero_add]
    have e3 : ((flat vs).toArray ++ (flat vs').toArray ++ rest) = (flat (vs ++ vs')).toArray ++ rest := by rw [flat_append]; simp
    rw [e3, Array.getElem?_append_left (by simpa using hlt)]
    simpa using hv
  · have hlt : i < (flat (vs ++ vs')).length := (List.getElem?_eq_some_iff.1 hv).1
    exact himm _ (by omega)
  · rcases List.mem_append.1 hv with hv | hv
    · exact hz1 v hv
    · exact hz2 v hv
  · cases ht'; simp [Ctx.newObj]
  · cases ht'
    have : sz = sz' := by simpa [Ctx.newObj, Store.upd] using hs'
    subst this
    refine ⟨c1.w.heap.size, (vs.length + vs'.length) * sz, 0, (e, newCap * sz), by simp [Ctx.newObj], rfl, by simp, by simp only [World.shape?, hat, blk, hsize], ?_, fun v hv => ?_⟩
    · simp only [Nat.zero_add]; exact Nat.le_refl _
    · rcases List.mem_append.1 hv with hv | hv
      · exact hz1 v hv
      · exact hz2 v hv

/-- append, in place -/
theorem next_inplace {l l' : List V} {vs vs' : List Value} {sz cap b e off : Nat} {t t' : Nat} {d : Option Tmp} {kc : Array Value} {U : TypeId}
    (hr : RelC H c0 c env a) (hg : c.g t = some (b, e)) (ht : c.s t = some (.tip sz)) (hn : c.g t' = none) (he : e = off + vs.length * sz)
    (hb : c.w.heap[b]? = some (.cells kc U (0, 0))) (hroom : off + cap * sz ≤ kc.size) (hle : vs.length + vs'.length ≤ cap)
    (h1 : repL c l vs) (h2 : repL c l' vs') (hz1 : ∀ v ∈ vs, v.cells.size = sz) (hz2 : ∀ v ∈ vs', v.cells.size = sz)
    (hp : vs = [] ∨ placed c b off (flat vs))
    (hk : K (put H env d (.v (.sl (l ++ l') (.tip t')))) ((c.s.del t).upd t' (.tip sz))) :
    Next H c0 K (a.put d (.slice (some ⟨b, off, none⟩) (vs.length + vs'.length) cap))
      (World.wrote c.w b (.cells (kc.toList.take e ++ flat vs' ++ kc.toList.drop (e + (flat vs').length)).toArray U (0, 0))) := by
  have hlt := hr.r.gb t b e hg
  have hf1 := flat_length hz1
  have hf2 := flat_length hz2
  have hmul : (vs.length + vs'.length) * sz ≤ cap * sz := Nat.mul_le_mul_right _ hle
  rw [Nat.add_mul] at hmul
  have hfit : e + (flat vs').length ≤ kc.size := by omega
  let co : Go.Obj := .cells (kc.toList.take e ++ flat vs' ++ kc.toList.drop (e + (flat vs').length)).toArray U (0, 0)
  have hsz : (kc.toList.take e ++ flat vs' ++ kc.toList.drop (e + (flat vs').length)).length = kc.size := by simp; omega
  have hsh : (World.wrote c.w b co).shape? b = c.w.shape? b := by
    simp only [World.shape?, wrote_at hlt, hb, co, List.size_toArray, hsz]
  have hcell : ∀ i, i < e → (World.wrote c.w b co).cell? ⟨b, i, none⟩ = c.w.cell? ⟨b, i, none⟩ := fun i hi => by
    simp only [World.cell?, wrote_at hlt, hb, co]
    have : (kc.toList.take e ++ flat vs' ++ kc.toList.drop (e + (flat vs').length))[i]? = kc.toList[i]? := by
      rw [List.append_assoc, List.getElem?_append_left (by simp; omega), List.getElem?_take]
      simp [hi]
    rw [List.getElem?_toArray, this]
    simp
  let e' := e + (flat vs').length
  have hext := Ext.grown (sz' := sz) hr.r hg ht hn (Nat.le_add_right e (flat vs').length) hsh hcell
  have hrep : objRep (c.grown t t' b e' sz co) b e' (.tip sz) := ⟨_, U, wrote_at hlt, by simp only [List.size_toArray, hsz]; exact hfit⟩
  have hevo := Evo.grown (sz' := sz) hr.r hg ht hn (Nat.le_add_right e (flat vs').length) hsh hcell
  have hR := R.grown hr.r hg ht hn (Nat.le_add_right e (flat vs').length) hsh hcell hrep
  have hst : Step c0 c (c.grown t t' b e' sz co) := Step.of_evo hr.r hevo hR rfl
  refine ⟨_, _, hk, c.grown t t' b e' sz co, rfl, rfl, (hr.step hst).put (x := .v (.sl (l ++ l') (.tip t'))) ?_⟩
  simp only [slotOk, rep]
  refine ⟨vs ++ vs', _, _, _, repL_ext hext _ _ (repL_append h1 h2), rfl, ?_⟩
  have hNb : ¬ c.N b := by
    obtain ⟨b2, e2, g2, n2, _⟩ := hr.r.obj t _ ht
    rw [hg] at g2; cases g2; exact n2
  have himm : ∀ i, i < e' → (c.grown t t' b e' sz co).imm b i := fun i hi => by
    refine ⟨hNb, fun id ob e2 hs hg' => ?_⟩
    by_cases hid : id = t'
    · subst hid
      have q1 : some (b, e') = some (b, e2) := by simpa [Ctx.grown] using hg'
      cases q1
      exact ⟨⟨sz, by simpa [Ctx.grown, Store.upd] using hs.symm⟩, hi⟩
    · have hs1 : (c.s.del t) id = some ob := by simpa [Ctx.grown, Store.upd, hid] using hs
      have hg1 : c.g id = some (b, e2) := by simpa [Ctx.grown, hid] using hg'
      have hne : id ≠ t := fun h => by simp [Store.del, h] at hs1
      exact absurd (hr.r.sep id t _ _ b e2 e (del_le _ _ _ _ hs1) ht hg1 hg) hne
  have hall : ∀ i v, (flat (vs ++ vs'))[i]? = some v → (World.wrote c.w b co).cell? ⟨b, off + i, none⟩ = some v ∧ off + i < e' := by
    intro i v hv
    have hlt2 : i < (flat (vs ++ vs')).length := (List.getElem?_eq_some_iff.1 hv).1
    rw [flat_append] at hv hlt2
    simp only [List.length_append] at hlt2
    refine ⟨?_, by show off + i < e + (flat vs').length; omega⟩
    by_cases hi : i < (flat vs).length
    · rw [List.getElem?_append_left hi] at hv
      rcases hp with rfl | hp
      · simp [flat] at hi
      · rw [hcell _ (by omega)]; exact (hp i v hv).1
    · rw [List.getElem?_append_right (by omega)] at hv
      simp only [World.cell?, wrote_at hlt, co]
      have : (kc.toList.take e ++ flat vs' ++ kc.toList.drop (e + (flat vs').length))[off + i]? = some v := by
        have htl : (kc.toList.take e).length = e := by simp; omega
        rw [List.append_assoc, List.getElem?_append_right (by rw [htl]; omega), htl, List.getElem?_append_left (by omega)]
        rw [← hv]; congr 1; omega
      simpa using this
  refine ⟨by simp, hle, fun h => (by cases h), .inr ⟨b, off, rfl, fun i v hv => ⟨(hall i v hv).1, himm _ (hall i v hv).2⟩⟩, ⟨sz, fun v hv => ?_⟩, fun t2 ht2 => ?_, fun t2 ht2 sz' hs' => ?_⟩
  · rcases List.mem_append.1 hv with hv | hv
    · exact hz1 v hv
    · exact hz2 v hv
  · cases ht2; simp [Ctx.grown]
  · cases ht2
    have : sz = sz' := by simpa [Ctx.grown, Store.upd] using hs'
    subst this
    refine ⟨b, e', off, (U, kc.size), by simp [Ctx.grown], rfl, ?_, ?_, hroom, fun v hv => ?_⟩
    · show e + (flat vs').length = _
      rw [hf2, he, Nat.add_mul]; omega
    · show (World.wrote c.w b co).shape? b = _
      rw [hsh]; simp [World.shape?, hb]
    · rcases List.mem_append.1 hv with hv | hv
      · exact hz1 v hv
      · exact hz2 v hv

end
end Go.Proofs.YtdeondiigpidnaaGreat.Ab
end
