/- Part 4 of what the proof leans on: texts of my own, joined. It proves no statement by itself. -/
import Derived.Test.YtdeondiigpidnaaGreatM2
import Derived.Test.YtdeondiigpidnaaGreatProg
import Derived.KernelRfl
import Derived.Test.YtdeondiigpidnaaGreatM3
import Derived.Test.YtdeondiigpidnaaGreatRows
import Derived.Shelf.Spec.SlicesGrow
import Derived.OwnWalk

section
set_option linter.unusedVariables false
set_option linter.unusedSimpArgs false
/- Normal forms of functions, printed by a program of mine; each is checked by the kernel. -/
namespace Go.Proofs.YtdeondiigpidnaaGreat.Ab
open Go Go.Proofs
set_option maxRecDepth 100000
set_option linter.unusedVariables false
set_option linter.unusedSectionVars false
variable [Fwd]
abbrev n_dnew : Go.FuncId := 21
noncomputable def h_dnew : Hints := { n := 4, esc := fun i => mem i [3], lr := fun _ => [], bx := fun _ => false, lc := fun _ => false, quiet := fun _ => false, order := fun _ => none, join := fun _ => none, carry := fun _ => [] }
noncomputable def s_dnew : Shapes := { carry := fun _ => [], res := fun _ => none }
theorem e_dnew  (s : Store) (K : V → Store → Prop) : tfun Tryz.prog h_dnew s_dnew Tryz.f21 [] s K = ( ∀ (i0 : Nat), s i0 = none → ∀ (i1 : Nat), s.upd i0 (Obj.map []) i1 = none → K (V.ptr i1 0) ((s.upd i0 (Obj.map [])).upd i1 (Obj.cells [V.map i0]))) := by kernel_rfl
theorem ok_dnew : okFn h_dnew Tryz.f21 = true := by kernel_rfl
theorem fn_dnew : Tryz.prog.funcs[21]? = some Tryz.f21 := by kernel_rfl
theorem ca_dnew : callable Tryz.prog 21 = true := by kernel_rfl
abbrev n_there : Go.FuncId := 38
noncomputable def h_there : Hints := { n := 21, esc := fun _ => false, lr := fun _ => [], bx := fun i => mem i [5], lc := fun _ => false, quiet := fun _ => false, order := fun _ => none, join := fun _ => none, carry := fun _ => [] }
noncomputable def s_there : Shapes := { carry := fun _ => [], res := fun _ => none }
theorem e_there (d : Nat) (t : Bytes) (s : Store) (K : V → Store → Prop) : tfun Tryz.prog h_there s_there Tryz.f38 [.ptr d 0, .str (bs t)] s K = ( ∃ o0 l1 v2, s d = some o0 ∧ objCells o0 = some l1 ∧ rd TK.sc l1 0 = some v2 ∧ ∃ i3, v2 = V.map i3 ∧ ∃ l4, (s i3 = some (Obj.map l4) ∨ s i3 = some (Obj.mapr l4)) ∧ (∀ (x5 : V × V), x5 ∈ l4 → hasKK (KK.one SK.str) x5.fst = true) ∧ ∃ v6, (mlook l4 (V.str (bs t))).getD (V.agg [V.str (ByteArray.mk #[]), V.int IntKind.i64 0]) = v6 ∧ ∃ t7 n8, v6 = V.agg [V.str t7, V.int IntKind.i64 n8] ∧ bif !(mlook l4 (V.str (bs t))).isSome then K (V.bool ((bs t).toList == (ByteArray.mk #[47]).toList)) s else K (V.bool true) s) := by kernel_rfl
theorem ok_there : okFn h_there Tryz.f38 = true := by kernel_rfl
theorem fn_there : Tryz.prog.funcs[38]? = some Tryz.f38 := by kernel_rfl
theorem ca_there : callable Tryz.prog 38 = true := by kernel_rfl
abbrev n_ops : Go.FuncId := 34
noncomputable def h_ops : Hints := { n := 3, esc := fun _ => false, lr := fun _ => [], bx := fun _ => false, lc := fun _ => false, quiet := fun _ => false, order := fun _ => none, join := fun _ => none, carry := fun _ => [] }
noncomputable def s_ops : Shapes := { carry := fun _ => [], res := fun _ => none }
theorem e_ops  (s : Store) (K : V → Store → Prop) : tfun Tryz.prog h_ops s_ops Tryz.f34 [] s K = ( ∀ (i0 : Nat), s i0 = none → ∃ l1, s.upd i0 (Obj.map []) i0 = some (Obj.map l1) ∧ (∀ (x2 : V × V), x2 ∈ l1 → hasKK (KK.one (SK.int IntKind.i64)) x2.fst = true) ∧ ∃ l3, (s.upd i0 (Obj.map [])).upd i0 (Obj.map (mput l1 (V.int IntKind.i64 2) (V.fn (Fn.func 52) [] []))) i0 = some (Obj.map l3) ∧ (∀ (x4 : V × V), x4 ∈ l3 → hasKK (KK.one (SK.int IntKind.i64)) x4.fst = true) ∧ ∃ l5, ((s.upd i0 (Obj.map [])).upd i0 (Obj.map (mput l1 (V.int IntKind.i64 2) (V.fn (Fn.func 52) [] [])))).upd i0 (Obj.map (mput l3 (V.int IntKind.i64 3) (V.fn (Fn.func 53) [] []))) i0 = some (Obj.map l5) ∧ (∀ (x6 : V × V), x6 ∈ l5 → hasKK (KK.one (SK.int IntKind.i64)) x6.fst = true) ∧ ∃ l7, (((s.upd i0 (Obj.map [])).upd i0 (Obj.map (mput l1 (V.int IntKind.i64 2) (V.fn (Fn.func 52) [] [])))).upd i0 (Obj.map (mput l3 (V.int IntKind.i64 3) (V.fn (Fn.func 53) [] [])))).upd i0 (Obj.map (mput l5 (V.int IntKind.i64 4) (V.fn (Fn.func 54) [] []))) i0 = some (Obj.map l7) ∧ (∀ (x8 : V × V), x8 ∈ l7 → hasKK (KK.one (SK.int IntKind.i64)) x8.fst = true) ∧ ∃ l9, ((((s.upd i0 (Obj.map [])).upd i0 (Obj.map (mput l1 (V.int IntKind.i64 2) (V.fn (Fn.func 52) [] [])))).upd i0 (Obj.map (mput l3 (V.int IntKind.i64 3) (V.fn (Fn.func 53) [] [])))).upd i0 (Obj.map (mput l5 (V.int IntKind.i64 4) (V.fn (Fn.func 54) [] [])))).upd i0 (Obj.map (mput l7 (V.int IntKind.i64 5) (V.fn (Fn.func 55) [] []))) i0 = some (Obj.map l9) ∧ (∀ (x10 : V × V), x10 ∈ l9 → hasKK (KK.one (SK.int IntKind.i64)) x10.fst = true) ∧ K (V.map i0) ((((((s.upd i0 (Obj.map [])).upd i0 (Obj.map (mput l1 (V.int IntKind.i64 2) (V.fn (Fn.func 52) [] [])))).upd i0 (Obj.map (mput l3 (V.int IntKind.i64 3) (V.fn (Fn.func 53) [] [])))).upd i0 (Obj.map (mput l5 (V.int IntKind.i64 4) (V.fn (Fn.func 54) [] [])))).upd i0 (Obj.map (mput l7 (V.int IntKind.i64 5) (V.fn (Fn.func 55) [] [])))).upd i0 (Obj.map (mput l9 (V.int IntKind.i64 6) (V.fn (Fn.func 56) [] []))))) := by kernel_rfl
theorem ok_ops : okFn h_ops Tryz.f34 = true := by kernel_rfl
theorem fn_ops : Tryz.prog.funcs[34]? = some Tryz.f34 := by kernel_rfl
theorem ca_ops : callable Tryz.prog 34 = true := by kernel_rfl
abbrev n_create : Go.FuncId := 37
noncomputable def h_create : Hints := { n := 29, esc := fun _ => false, lr := fun i => match i with | 3 => [7, 13, 23, 25] | _ => [], bx := fun i => mem i [3, 4], lc := fun i => mem i [3, 4, 7, 13, 23, 25], quiet := fun i => mem i [36, 38, 41], order := fun i => match i with | 5 => some [0, 1, 2, 3, 4, 5, 6, 7, 8, 9] | _ => none, join := fun _ => none, carry := fun _ => [] }
noncomputable def s_create : Shapes := { carry := fun _ => [], res := fun _ => none }
theorem e_create (d : Nat) (c : Cmd) (s : Store) (K : V → Store → Prop) : tfun Tryz.prog h_create s_create Tryz.f37 [.ptr d 0, c.enc] s K = ( AC Tryz.prog 38 [V.ptr d 0, V.str (bs c.path)] s fun v0 s1 => ∃ b2, v0 = V.bool b2 ∧ bif b2 then AC Tryz.prog 36 [V.int IntKind.i64 3] s1 fun v3 s4 => ∃ n5 t6 n7 l8 c9, v3 = V.agg [V.int IntKind.i64 n5, V.str t6, V.int IntKind.i64 n7, V.sl l8 c9] ∧ K (V.agg [V.int IntKind.i64 n5, V.str t6, V.int IntKind.i64 n7, V.sl l8 c9]) s4 else AC Tryz.prog 41 [V.str (bs c.path)] s1 fun v10 s11 => ∃ t12, v10 = V.str t12 ∧ AC Tryz.prog 38 [V.ptr d 0, V.str t12] s11 fun v13 s14 => ∃ b15, v13 = V.bool b15 ∧ bif !b15 then AC Tryz.prog 36 [V.int IntKind.i64 2] s14 fun v16 s17 => ∃ n18 t19 n20 l21 c22, v16 = V.agg [V.int IntKind.i64 n18, V.str t19, V.int IntKind.i64 n20, V.sl l21 c22] ∧ K (V.agg [V.int IntKind.i64 n18, V.str t19, V.int IntKind.i64 n20, V.sl l21 c22]) s17 else ∃ o23 l24 v25, s14 d = some o23 ∧ objCells o23 = some l24 ∧ rd TK.sc l24 0 = some v25 ∧ ∃ i26, v25 = V.map i26 ∧ ∃ l27, s14 i26 = some (Obj.map l27) ∧ (∀ (x28 : V × V), x28 ∈ l27 → hasKK (KK.one SK.str) x28.fst = true) ∧ K (V.agg [V.int IntKind.i64 0, V.str (ByteArray.mk #[]), V.int IntKind.i64 1, V.sl [] Cap.full]) (s14.upd i26 (Obj.map (mput l27 (V.str (bs c.path)) (V.agg [V.str (bs c.value), V.int IntKind.i64 1]))))) := by kernel_rfl
theorem ok_create : okFn h_create Tryz.f37 = true := by kernel_rfl
theorem fn_create : Tryz.prog.funcs[37]? = some Tryz.f37 := by kernel_rfl
theorem ca_create : callable Tryz.prog 37 = true := by kernel_rfl
abbrev n_remove : Go.FuncId := 52
noncomputable def h_remove : Hints := { n := 19, esc := fun _ => false, lr := fun i => match i with | 3 => [6, 16] | _ => [], bx := fun i => mem i [3, 4], lc := fun i => mem i [3, 4, 6, 16], quiet := fun i => mem i [36], order := fun i => match i with | 3 => some [0, 1, 2, 3, 4, 5, 6] | _ => none, join := fun _ => none, carry := fun _ => [] }
noncomputable def s_remove : Shapes := { carry := fun _ => [], res := fun _ => none }
theorem e_remove (d : Nat) (c : Cmd) (s : Store) (K : V → Store → Prop) : tfun Tryz.prog h_remove s_remove Tryz.f52 [.ptr d 0, c.enc] s K = ( AC Tryz.prog 73 [V.ptr d 0, V.str (bs c.path)] s fun v0 s1 => ∃ l2 c3, v0 = V.sl l2 c3 ∧ bif decide ((↑l2.length : Int) > 0) then AC Tryz.prog 36 [V.int IntKind.i64 4] s1 fun v4 s5 => ∃ n6 t7 n8 l9 c10, v4 = V.agg [V.int IntKind.i64 n6, V.str t7, V.int IntKind.i64 n8, V.sl l9 c10] ∧ K (V.agg [V.int IntKind.i64 n6, V.str t7, V.int IntKind.i64 n8, V.sl l9 c10]) s5 else ∃ o11 l12 v13, s1 d = some o11 ∧ objCells o11 = some l12 ∧ rd TK.sc l12 0 = some v13 ∧ ∃ i14, v13 = V.map i14 ∧ ∃ l15, s1 i14 = some (Obj.map l15) ∧ (∀ (x16 : V × V), x16 ∈ l15 → hasKK (KK.one SK.str) x16.fst = true) ∧ K (V.agg [V.int IntKind.i64 0, V.str (ByteArray.mk #[]), V.int IntKind.i64 0, V.sl [] Cap.full]) (s1.upd i14 (Obj.map (mdel l15 (V.str (bs c.path)))))) := by kernel_rfl
theorem ok_remove : okFn h_remove Tryz.f52 = true := by kernel_rfl
theorem fn_remove : Tryz.prog.funcs[52]? = some Tryz.f52 := by kernel_rfl
theorem ca_remove : callable Tryz.prog 52 = true := by kernel_rfl
abbrev n_set : Go.FuncId := 53
noncomputable def h_set : Hints := { n := 28, esc := fun _ => false, lr := fun i => match i with | 3 => [6, 12, 22] | 5 => [25] | _ => [], bx := fun i => mem i [3, 4, 5], lc := fun i => mem i [3, 4, 5, 6, 12, 22, 25], quiet := fun _ => false, order := fun i => match i with | 1 => some [0, 1, 2, 3, 4, 5, 6, 7, 8, 9, 10, 11, 12, 13] | 2 => some [0, 1, 2, 3, 4, 5, 6, 7] | _ => none, join := fun _ => none, carry := fun _ => [] }
noncomputable def s_set : Shapes := { carry := fun _ => [], res := fun _ => none }
theorem e_set (d : Nat) (c : Cmd) (s : Store) (K : V → Store → Prop) : tfun Tryz.prog h_set s_set Tryz.f53 [.ptr d 0, c.enc] s K = ( ∃ o0 l1 v2, s d = some o0 ∧ objCells o0 = some l1 ∧ rd TK.sc l1 0 = some v2 ∧ ∃ i3, v2 = V.map i3 ∧ ∃ l4, (s i3 = some (Obj.map l4) ∨ s i3 = some (Obj.mapr l4)) ∧ (∀ (x5 : V × V), x5 ∈ l4 → hasKK (KK.one SK.str) x5.fst = true) ∧ ∃ v6, (mlook l4 (V.str (bs c.path))).getD (V.agg [V.str (ByteArray.mk #[]), V.int IntKind.i64 0]) = v6 ∧ ∃ t7 n8, v6 = V.agg [V.str t7, V.int IntKind.i64 n8] ∧ ∃ o9 l10 v11, s d = some o9 ∧ objCells o9 = some l10 ∧ rd TK.sc l10 0 = some v11 ∧ ∃ i12, v11 = V.map i12 ∧ ∃ l13, s i12 = some (Obj.map l13) ∧ (∀ (x14 : V × V), x14 ∈ l13 → hasKK (KK.one SK.str) x14.fst = true) ∧ K (V.agg [V.int IntKind.i64 0, V.str (ByteArray.mk #[]), V.int IntKind.i64 (IntKind.i64.wrap (n8 + 1)), V.sl [] Cap.full]) (s.upd i12 (Obj.map (mput l13 (V.str (bs c.path)) (V.agg [V.str (bs c.value), V.int IntKind.i64 (IntKind.i64.wrap (n8 + 1))]))))) := by kernel_rfl
theorem ok_set : okFn h_set Tryz.f53 = true := by kernel_rfl
theorem fn_set : Tryz.prog.funcs[53]? = some Tryz.f53 := by kernel_rfl
theorem ca_set : callable Tryz.prog 53 = true := by kernel_rfl
abbrev n_get : Go.FuncId := 54
noncomputable def h_get : Hints := { n := 22, esc := fun _ => false, lr := fun i => match i with | 3 => [9, 17] | _ => [], bx := fun i => mem i [3, 4], lc := fun i => mem i [3, 4, 9, 17], quiet := fun _ => false, order := fun i => match i with | 1 => some [0, 1, 2, 3, 4, 5, 6, 7, 8, 9, 10, 11, 12, 13, 14, 15, 16, 17] | _ => none, join := fun _ => none, carry := fun _ => [] }
noncomputable def s_get : Shapes := { carry := fun _ => [], res := fun _ => none }
theorem e_get (d : Nat) (c : Cmd) (s : Store) (K : V → Store → Prop) : tfun Tryz.prog h_get s_get Tryz.f54 [.ptr d 0, c.enc] s K = ( ∃ o0 l1 v2, s d = some o0 ∧ objCells o0 = some l1 ∧ rd TK.sc l1 0 = some v2 ∧ ∃ i3, v2 = V.map i3 ∧ ∃ l4, (s i3 = some (Obj.map l4) ∨ s i3 = some (Obj.mapr l4)) ∧ (∀ (x5 : V × V), x5 ∈ l4 → hasKK (KK.one SK.str) x5.fst = true) ∧ ∃ v6, (mlook l4 (V.str (bs c.path))).getD (V.agg [V.str (ByteArray.mk #[]), V.int IntKind.i64 0]) = v6 ∧ ∃ t7 n8, v6 = V.agg [V.str t7, V.int IntKind.i64 n8] ∧ ∃ o9 l10 v11, s d = some o9 ∧ objCells o9 = some l10 ∧ rd TK.sc l10 0 = some v11 ∧ ∃ i12, v11 = V.map i12 ∧ ∃ l13, (s i12 = some (Obj.map l13) ∨ s i12 = some (Obj.mapr l13)) ∧ (∀ (x14 : V × V), x14 ∈ l13 → hasKK (KK.one SK.str) x14.fst = true) ∧ ∃ v15, (mlook l13 (V.str (bs c.path))).getD (V.agg [V.str (ByteArray.mk #[]), V.int IntKind.i64 0]) = v15 ∧ ∃ t16 n17, v15 = V.agg [V.str t16, V.int IntKind.i64 n17] ∧ K (V.agg [V.int IntKind.i64 0, V.str t7, V.int IntKind.i64 n17, V.sl [] Cap.full]) s) := by kernel_rfl
theorem ok_get : okFn h_get Tryz.f54 = true := by kernel_rfl
theorem fn_get : Tryz.prog.funcs[54]? = some Tryz.f54 := by kernel_rfl
theorem ca_get : callable Tryz.prog 54 = true := by kernel_rfl
abbrev n_list : Go.FuncId := 55
noncomputable def h_list : Hints := { n := 10, esc := fun _ => false, lr := fun i => match i with | 3 => [6] | _ => [], bx := fun i => mem i [3, 4], lc := fun _ => false, quiet := fun _ => false, order := fun _ => none, join := fun _ => none, carry := fun _ => [] }
noncomputable def s_list : Shapes := { carry := fun _ => [], res := fun _ => none }
theorem e_list (d : Nat) (c : Cmd) (s : Store) (K : V → Store → Prop) : tfun Tryz.prog h_list s_list Tryz.f55 [.ptr d 0, c.enc] s K = ( AC Tryz.prog 73 [V.ptr d 0, V.str (bs c.path)] s fun v0 s1 => ∃ l2 c3, v0 = V.sl l2 c3 ∧ K (V.agg [V.int IntKind.i64 0, V.str (ByteArray.mk #[]), V.int IntKind.i64 0, V.sl l2 c3]) s1) := by kernel_rfl
theorem ok_list : okFn h_list Tryz.f55 = true := by kernel_rfl
theorem fn_list : Tryz.prog.funcs[55]? = some Tryz.f55 := by kernel_rfl
theorem ca_list : callable Tryz.prog 55 = true := by kernel_rfl
abbrev n_cas : Go.FuncId := 56
noncomputable def h_cas : Hints := { n := 23, esc := fun _ => false, lr := fun i => match i with | 3 => [10, 15] | _ => [], bx := fun i => mem i [3, 4], lc := fun i => mem i [3, 4, 10, 15], quiet := fun _ => false, order := fun i => match i with | 1 => some [0, 1, 2, 3, 4, 5, 6, 7, 8] | _ => none, join := fun _ => none, carry := fun _ => [] }
noncomputable def s_cas : Shapes := { carry := fun _ => [], res := fun _ => none }
theorem e_cas (d : Nat) (c : Cmd) (s : Store) (K : V → Store → Prop) : tfun Tryz.prog h_cas s_cas Tryz.f56 [.ptr d 0, c.enc] s K = ( ∃ o0 l1 v2, s d = some o0 ∧ objCells o0 = some l1 ∧ rd TK.sc l1 0 = some v2 ∧ ∃ i3, v2 = V.map i3 ∧ ∃ l4, (s i3 = some (Obj.map l4) ∨ s i3 = some (Obj.mapr l4)) ∧ (∀ (x5 : V × V), x5 ∈ l4 → hasKK (KK.one SK.str) x5.fst = true) ∧ ∃ v6, (mlook l4 (V.str (bs c.path))).getD (V.agg [V.str (ByteArray.mk #[]), V.int IntKind.i64 0]) = v6 ∧ ∃ t7 n8, v6 = V.agg [V.str t7, V.int IntKind.i64 n8] ∧ bif n8 != c.version then K (V.agg [V.int IntKind.i64 5, V.str (ByteArray.mk #[]), V.int IntKind.i64 n8, V.sl [] Cap.full]) s else AC Tryz.prog 53 [V.ptr d 0, V.agg [V.int IntKind.i64 c.client, V.int IntKind.i64 c.seq, V.int IntKind.i64 c.op, V.str (bs c.path), V.str (bs c.value), V.int IntKind.i64 c.version, V.int IntKind.i64 c.a, V.int IntKind.i64 c.b]] s fun v9 s10 => ∃ n11 t12 n13 l14 c15, v9 = V.agg [V.int IntKind.i64 n11, V.str t12, V.int IntKind.i64 n13, V.sl l14 c15] ∧ K (V.agg [V.int IntKind.i64 n11, V.str t12, V.int IntKind.i64 n13, V.sl l14 c15]) s10) := by kernel_rfl
theorem ok_cas : okFn h_cas Tryz.f56 = true := by kernel_rfl
theorem fn_cas : Tryz.prog.funcs[56]? = some Tryz.f56 := by kernel_rfl
theorem ca_cas : callable Tryz.prog 56 = true := by kernel_rfl
abbrev n_dapply : Go.FuncId := 24
noncomputable def h_dapply : Hints := { n := 41, esc := fun _ => false, lr := fun i => match i with | 3 => [7, 14, 32] | _ => [], bx := fun i => mem i [3, 4], lc := fun i => mem i [3, 4, 7, 14, 32], quiet := fun i => mem i [34, 35, 36, 38], order := fun i => match i with | 1 => some [1, 2, 0, 3, 4] | _ => none, join := fun _ => none, carry := fun _ => [] }
noncomputable def s_dapply : Shapes := { carry := fun _ => [], res := fun _ => none }
theorem e_dapply (d : Nat) (c : Cmd) (s : Store) (K : V → Store → Prop) : tfun Tryz.prog h_dapply s_dapply Tryz.f24 [.ptr d 0, c.enc] s K = ( AC Tryz.prog 34 [] s fun v0 s1 => s.le s1 ∧ ∃ i2, v0 = V.map i2 ∧ ∃ l3, (s1 i2 = some (Obj.map l3) ∨ s1 i2 = some (Obj.mapr l3)) ∧ (∀ (x4 : V × V), x4 ∈ l3 → hasKK (KK.one (SK.int IntKind.i64)) x4.fst = true) ∧ ∃ v5, (mlook l3 (V.int IntKind.i64 c.op)).getD V.nilfn = v5 ∧ get (eqV EK.func v5 V.nilfn) fun b6 => bif b6 then bif !c.op != 1 then AC Tryz.prog 35 [V.agg [V.int IntKind.i64 c.client, V.int IntKind.i64 c.seq, V.int IntKind.i64 c.op, V.str (bs c.path), V.str (bs c.value), V.int IntKind.i64 c.version, V.int IntKind.i64 c.a, V.int IntKind.i64 c.b]] s1 fun v7 s8 => ∃ b9, v7 = V.bool b9 ∧ bif !b9 then AC Tryz.prog 36 [V.int IntKind.i64 1] s8 fun v10 s11 => ∃ n12 t13 n14 l15 c16, v10 = V.agg [V.int IntKind.i64 n12, V.str t13, V.int IntKind.i64 n14, V.sl l15 c16] ∧ K (V.agg [V.int IntKind.i64 n12, V.str t13, V.int IntKind.i64 n14, V.sl l15 c16]) s11 else get (eqV EK.func v5 V.nilfn) fun b17 => bif b17 then AC Tryz.prog 37 [V.ptr d 0, V.agg [V.int IntKind.i64 c.client, V.int IntKind.i64 c.seq, V.int IntKind.i64 c.op, V.str (bs c.path), V.str (bs c.value), V.int IntKind.i64 c.version, V.int IntKind.i64 c.a, V.int IntKind.i64 c.b]] s8 fun v18 s19 => ∃ n20 t21 n22 l23 c24, v18 = V.agg [V.int IntKind.i64 n20, V.str t21, V.int IntKind.i64 n22, V.sl l23 c24] ∧ K (V.agg [V.int IntKind.i64 n20, V.str t21, V.int IntKind.i64 n22, V.sl l23 c24]) s19 else AC Tryz.prog 38 [V.ptr d 0, V.str (bs c.path)] s8 fun v25 s26 => ∃ b27, v25 = V.bool b27 ∧ bif !b27 then AC Tryz.prog 36 [V.int IntKind.i64 2] s26 fun v28 s29 => ∃ n30 t31 n32 l33 c34, v28 = V.agg [V.int IntKind.i64 n30, V.str t31, V.int IntKind.i64 n32, V.sl l33 c34] ∧ K (V.agg [V.int IntKind.i64 n30, V.str t31, V.int IntKind.i64 n32, V.sl l33 c34]) s29 else ∃ i35 l36 l37, v5 = V.fn (Fn.func i35) l36 l37 ∧ AC Tryz.prog i35 (l36 ++ [V.ptr d 0, V.agg [V.int IntKind.i64 c.client, V.int IntKind.i64 c.seq, V.int IntKind.i64 c.op, V.str (bs c.path), V.str (bs c.value), V.int IntKind.i64 c.version, V.int IntKind.i64 c.a, V.int IntKind.i64 c.b]] ++ l37) s26 fun v38 s39 => ∃ n40 t41 n42 l43 c44, v38 = V.agg [V.int IntKind.i64 n40, V.str t41, V.int IntKind.i64 n42, V.sl l43 c44] ∧ K (V.agg [V.int IntKind.i64 n40, V.str t41, V.int IntKind.i64 n42, V.sl l43 c44]) s39 else AC Tryz.prog 36 [V.int IntKind.i64 1] s1 fun v45 s46 => ∃ n47 t48 n49 l50 c51, v45 = V.agg [V.int IntKind.i64 n47, V.str t48, V.int IntKind.i64 n49, V.sl l50 c51] ∧ K (V.agg [V.int IntKind.i64 n47, V.str t48, V.int IntKind.i64 n49, V.sl l50 c51]) s46 else AC Tryz.prog 35 [V.agg [V.int IntKind.i64 c.client, V.int IntKind.i64 c.seq, V.int IntKind.i64 c.op, V.str (bs c.path), V.str (bs c.value), V.int IntKind.i64 c.version, V.int IntKind.i64 c.a, V.int IntKind.i64 c.b]] s1 fun v52 s53 => ∃ b54, v52 = V.bool b54 ∧ bif !b54 then AC Tryz.prog 36 [V.int IntKind.i64 1] s53 fun v55 s56 => ∃ n57 t58 n59 l60 c61, v55 = V.agg [V.int IntKind.i64 n57, V.str t58, V.int IntKind.i64 n59, V.sl l60 c61] ∧ K (V.agg [V.int IntKind.i64 n57, V.str t58, V.int IntKind.i64 n59, V.sl l60 c61]) s56 else get (eqV EK.func v5 V.nilfn) fun b62 => bif b62 then AC Tryz.prog 37 [V.ptr d 0, V.agg [V.int IntKind.i64 c.client, V.int IntKind.i64 c.seq, V.int IntKind.i64 c.op, V.str (bs c.path), V.str (bs c.value), V.int IntKind.i64 c.version, V.int IntKind.i64 c.a, V.int IntKind.i64 c.b]] s53 fun v63 s64 => ∃ n65 t66 n67 l68 c69, v63 = V.agg [V.int IntKind.i64 n65, V.str t66, V.int IntKind.i64 n67, V.sl l68 c69] ∧ K (V.agg [V.int IntKind.i64 n65, V.str t66, V.int IntKind.i64 n67, V.sl l68 c69]) s64 else AC Tryz.prog 38 [V.ptr d 0, V.str (bs c.path)] s53 fun v70 s71 => ∃ b72, v70 = V.bool b72 ∧ bif !b72 then AC Tryz.prog 36 [V.int IntKind.i64 2] s71 fun v73 s74 => ∃ n75 t76 n77 l78 c79, v73 = V.agg [V.int IntKind.i64 n75, V.str t76, V.int IntKind.i64 n77, V.sl l78 c79] ∧ K (V.agg [V.int IntKind.i64 n75, V.str t76, V.int IntKind.i64 n77, V.sl l78 c79]) s74 else ∃ i80 l81 l82, v5 = V.fn (Fn.func i80) l81 l82 ∧ AC Tryz.prog i80 (l81 ++ [V.ptr d 0, V.agg [V.int IntKind.i64 c.client, V.int IntKind.i64 c.seq, V.int IntKind.i64 c.op, V.str (bs c.path), V.str (bs c.value), V.int IntKind.i64 c.version, V.int IntKind.i64 c.a, V.int IntKind.i64 c.b]] ++ l82) s71 fun v83 s84 => ∃ n85 t86 n87 l88 c89, v83 = V.agg [V.int IntKind.i64 n85, V.str t86, V.int IntKind.i64 n87, V.sl l88 c89] ∧ K (V.agg [V.int IntKind.i64 n85, V.str t86, V.int IntKind.i64 n87, V.sl l88 c89]) s84) := by kernel_rfl
theorem ok_dapply : okFn h_dapply Tryz.f24 = true := by kernel_rfl
theorem fn_dapply : Tryz.prog.funcs[24]? = some Tryz.f24 := by kernel_rfl
theorem ca_dapply : callable Tryz.prog 24 = true := by kernel_rfl
abbrev n_dclone : Go.FuncId := 30
noncomputable def h_dclone : Hints := { n := 10, esc := fun i => mem i [9], lr := fun _ => [], bx := fun _ => false, lc := fun _ => false, quiet := fun _ => false, order := fun _ => none, join := fun _ => none, carry := fun _ => [] }
noncomputable def s_dclone : Shapes := { carry := fun _ => [], res := fun _ => none }
theorem e_dclone (d : Nat) (s : Store) (K : V → Store → Prop) : tfun Tryz.prog h_dclone s_dclone Tryz.f30 [.ptr d 0] s K = ( ∃ o0 l1 v2, s d = some o0 ∧ objCells o0 = some l1 ∧ rd TK.sc l1 0 = some v2 ∧ ∃ i3, v2 = V.map i3 ∧ AC Tryz.prog 48 [V.map i3] s fun v4 s5 => ∃ i6, v4 = V.map i6 ∧ ∀ (i7 : Nat), s5 i7 = none → K (V.ptr i7 0) (s5.upd i7 (Obj.cells [V.map i6]))) := by kernel_rfl
theorem ok_dclone : okFn h_dclone Tryz.f30 = true := by kernel_rfl
theorem fn_dclone : Tryz.prog.funcs[30]? = some Tryz.f30 := by kernel_rfl
theorem ca_dclone : callable Tryz.prog 30 = true := by kernel_rfl
abbrev n_entries : Go.FuncId := 26
noncomputable def h_entries : Hints := { n := 38, esc := fun _ => false, lr := fun _ => [], bx := fun _ => false, lc := fun _ => false, quiet := fun _ => false, order := fun i => match i with | 5 => some [0, 1, 2, 3, 4, 5, 6, 7, 8, 9, 10, 11, 12, 13, 14, 15, 16, 17, 18, 19] | _ => none, join := fun _ => none, carry := fun i => match i with | 3 => [3, 13] | _ => [] }
noncomputable def s_entries : Shapes := { carry := fun i => match i with | 3 => [shA Tryz.prog 37, shA Tryz.prog 3] | _ => [], res := fun _ => none }
theorem e_entries (d : Nat) (s : Store) (K : V → Store → Prop) : tfun Tryz.prog h_entries s_entries Tryz.f26 [.ptr d 0] s K = ( ∃ o0 l1 v2, s d = some o0 ∧ objCells o0 = some l1 ∧ rd TK.sc l1 0 = some v2 ∧ ∃ i3, v2 = V.map i3 ∧ AC Tryz.prog 43 [V.map i3] s fun v4 s5 => AC Tryz.prog 42 [v4, V.fn (Fn.func 44) [] []] s5 fun v6 s7 => ∃ l8 c9, v6 = V.sl l8 c9 ∧ lfp (fun s10 l11 s12 => ∃ l13 c14 n15, l11 = [V.sl l13 c14, V.int IntKind.i64 n15] ∧ bif decide (n15 < (↑l8.length : Int)) then 0 ≤ n15 ∧ ∃ v16, l8[n15.toNat]? = some v16 ∧ ∃ t17, v16 = V.str t17 ∧ ∃ o18 l19 v20, s12 d = some o18 ∧ objCells o18 = some l19 ∧ rd TK.sc l19 0 = some v20 ∧ ∃ i21, v20 = V.map i21 ∧ ∃ l22, (s12 i21 = some (Obj.map l22) ∨ s12 i21 = some (Obj.mapr l22)) ∧ (∀ (x23 : V × V), x23 ∈ l22 → hasKK (KK.one SK.str) x23.fst = true) ∧ ∃ v24, (mlook l22 (V.str t17)).getD (V.agg [V.str (ByteArray.mk #[]), V.int IntKind.i64 0]) = v24 ∧ ∃ t25 n26, v24 = V.agg [V.str t25, V.int IntKind.i64 n26] ∧ ∃ o27 l28 v29, s12 d = some o27 ∧ objCells o27 = some l28 ∧ rd TK.sc l28 0 = some v29 ∧ ∃ i30, v29 = V.map i30 ∧ ∃ l31, (s12 i30 = some (Obj.map l31) ∨ s12 i30 = some (Obj.mapr l31)) ∧ (∀ (x32 : V × V), x32 ∈ l31 → hasKK (KK.one SK.str) x32.fst = true) ∧ ∃ v33, (mlook l31 (V.str t17)).getD (V.agg [V.str (ByteArray.mk #[]), V.int IntKind.i64 0]) = v33 ∧ ∃ t34 n35, v33 = V.agg [V.str t34, V.int IntKind.i64 n35] ∧ tapp 3 l13 c14 [V.agg [V.str t17, V.str t25, V.int IntKind.i64 n35]] s12 fun l36 c37 s38 => s10 [V.sl l36 c37, V.int IntKind.i64 (IntKind.i64.wrap (n15 + 1))] s38 else K (V.sl l13 c14) s12) [V.sl [] Cap.full, V.int IntKind.i64 0] s7) := by kernel_rfl
theorem ok_entries : okFn h_entries Tryz.f26 = true := by kernel_rfl
theorem fn_entries : Tryz.prog.funcs[26]? = some Tryz.f26 := by kernel_rfl
theorem ca_entries : callable Tryz.prog 26 = true := by kernel_rfl
abbrev n_dof : Go.FuncId := 25
noncomputable def h_dof : Hints := { n := 67, esc := fun _ => false, lr := fun i => match i with | 6 => [15, 20, 26, 40, 48, 58, 60, 62] | _ => [], bx := fun i => mem i [6], lc := fun i => mem i [6, 15, 20, 26, 40, 48, 58, 60, 62], quiet := fun i => mem i [38, 39, 40, 41], order := fun i => match i with | 5 => some [0, 1, 2, 3, 4, 5, 6, 7, 8, 9, 10, 11, 12, 13, 14, 15, 16, 17, 18, 19, 20, 21, 22, 23, 24, 25, 26, 27, 28, 29, 30, 31, 32, 33, 34, 35, 36, 37, 38] | 7 => some [0, 1, 2, 3, 4, 5, 6, 7, 8, 9, 10, 11] | _ => none, join := fun _ => none, carry := fun i => match i with | 3 => [10] | _ => [] }
noncomputable def s_dof : Shapes := { carry := fun i => match i with | 3 => [shA Tryz.prog 3] | _ => [], res := fun _ => none }
theorem e_dof (l : List Entry) (k : Cap) (s : Store) (K : V → Store → Prop) : tfun Tryz.prog h_dof s_dof Tryz.f25 [.sl (l.map Entry.enc) k] s K = ( AC Tryz.prog 21 [] s fun v0 s1 => ∃ i2, v0 = V.ptr i2 0 ∧ lfp (fun s3 l4 s5 => ∃ n6, l4 = [V.int IntKind.i64 n6] ∧ bif decide (n6 < (↑(List.map Entry.enc l).length : Int)) then 0 ≤ n6 ∧ ∃ v7, (List.map Entry.enc l)[n6.toNat]? = some v7 ∧ ∃ t8 t9 n10, v7 = V.agg [V.str t8, V.str t9, V.int IntKind.i64 n10] ∧ AC Tryz.prog 39 [V.str t8] s5 fun v11 s12 => s5.le s12 ∧ ∃ n13, v11 = V.int IntKind.i64 n13 ∧ bif !decide (n13 < 1) then bif !decide ((↑t9.size : Int) > 64) then bif !decide (n10 < 1) then bif decide (n6 > 0) then 0 ≤ IntKind.i64.wrap (n6 - 1) ∧ ∃ v14, (List.map Entry.enc l)[(IntKind.i64.wrap (n6 - 1)).toNat]? = some v14 ∧ ∃ t15 t16 n17, v14 = V.agg [V.str t15, V.str t16, V.int IntKind.i64 n17] ∧ AC Tryz.prog 40 [V.str t15, V.str t8] s12 fun v18 s19 => s12.le s19 ∧ ∃ b20, v18 = V.bool b20 ∧ bif !!b20 then AC Tryz.prog 41 [V.str t8] s19 fun v21 s22 => s19.le s22 ∧ ∃ t23, v21 = V.str t23 ∧ AC Tryz.prog 38 [V.ptr i2 0, V.str t23] s22 fun v24 s25 => s22.le s25 ∧ ∃ b26, v24 = V.bool b26 ∧ bif !b26 then K (V.tup [V.nilp, V.int IntKind.i64 1]) s25 else ∃ o27 l28 v29, s25 i2 = some o27 ∧ objCells o27 = some l28 ∧ rd TK.sc l28 0 = some v29 ∧ ∃ i30, v29 = V.map i30 ∧ ∃ l31, s25 i30 = some (Obj.map l31) ∧ (∀ (x32 : V × V), x32 ∈ l31 → hasKK (KK.one SK.str) x32.fst = true) ∧ s3 [V.int IntKind.i64 (IntKind.i64.wrap (n6 + 1))] (s25.upd i30 (Obj.map (mput l31 (V.str t8) (V.agg [V.str t9, V.int IntKind.i64 n10])))) else K (V.tup [V.nilp, V.int IntKind.i64 1]) s19 else AC Tryz.prog 41 [V.str t8] s12 fun v33 s34 => s12.le s34 ∧ ∃ t35, v33 = V.str t35 ∧ AC Tryz.prog 38 [V.ptr i2 0, V.str t35] s34 fun v36 s37 => s34.le s37 ∧ ∃ b38, v36 = V.bool b38 ∧ bif !b38 then K (V.tup [V.nilp, V.int IntKind.i64 1]) s37 else ∃ o39 l40 v41, s37 i2 = some o39 ∧ objCells o39 = some l40 ∧ rd TK.sc l40 0 = some v41 ∧ ∃ i42, v41 = V.map i42 ∧ ∃ l43, s37 i42 = some (Obj.map l43) ∧ (∀ (x44 : V × V), x44 ∈ l43 → hasKK (KK.one SK.str) x44.fst = true) ∧ s3 [V.int IntKind.i64 (IntKind.i64.wrap (n6 + 1))] (s37.upd i42 (Obj.map (mput l43 (V.str t8) (V.agg [V.str t9, V.int IntKind.i64 n10])))) else K (V.tup [V.nilp, V.int IntKind.i64 1]) s12 else K (V.tup [V.nilp, V.int IntKind.i64 1]) s12 else K (V.tup [V.nilp, V.int IntKind.i64 1]) s12 else K (V.tup [V.ptr i2 0, V.int IntKind.i64 0]) s5) [V.int IntKind.i64 0] s1) := by kernel_rfl
theorem ok_dof : okFn h_dof Tryz.f25 = true := by kernel_rfl
theorem fn_dof : Tryz.prog.funcs[25]? = some Tryz.f25 := by kernel_rfl
theorem ca_dof : callable Tryz.prog 25 = true := by kernel_rfl
end Go.Proofs.YtdeondiigpidnaaGreat.Ab
end

section
set_option linter.unusedVariables false
set_option linter.unusedSimpArgs false
/- Contracts: a directory's entries. -/
namespace Go.Proofs.YtdeondiigpidnaaGreat.Ab
open Go Go.Proofs
set_option linter.unusedVariables false
set_option linter.unusedSimpArgs false
set_option linter.unusedSectionVars false
variable [Fwd]

/-- a call that gives a value, and leaves a store -/
def UAC (P : Program) (f : FuncId) (args : List V) (s s2 : Store) (v : V) : Prop := AC P f args s fun r s' => s' = s2 ∧ r = v
theorem UAC.use {P : Program} {f : FuncId} {args : List V} {s s2 : Store} {v : V} {Q : V → Store → Prop} (h : UAC P f args s s2 v) (hq : Q v s2) : AC P f args s Q :=
  AC.mono h fun r s' ⟨h1, h2⟩ => by subst h1; subst h2; exact hq
theorem UAC_of {P : Program} {H : Hints} {S : Shapes} (hm : P.follows .mixedOrders = true) {f : FuncId} {fn : Func} {args : List V} {s s2 : Store} {v : V} (hf : P.funcs[f]? = some fn) (hc : callable P f = true)
    (hok : okFn H fn = true) (h : tfun P H S fn args s (Kp s2 v)) : UAC P f args s s2 v :=
  AC_of_tfun hm hf hc hok h fun r s' ⟨h1, h2⟩ => ⟨v, s2, h2, h1, rfl, rfl⟩

theorem upd_same {s : Store} {i : Nat} {o : Obj} (h : s i = some o) : s.upd i o = s := by
  funext j; simp only [Store.upd]; split
  · rename_i e; subst e; exact h.symm
  · rfl
theorem upd_upd {s : Store} {i : Nat} {o o' : Obj} : (s.upd i o).upd i o' = s.upd i o' := by
  funext j; simp only [Store.upd]; split <;> rfl
theorem upd_at {s : Store} {i : Nat} {o : Obj} : s.upd i o i = some o := by simp [Store.upd]
theorem upd_ne {s : Store} {i j : Nat} {o : Obj} (h : j ≠ i) : s.upd i o j = s j := by simp [Store.upd, h]
theorem upd_le {s s' : Store} {i : Nat} {o : Obj} (h : s.le s') : (s.upd i o).le (s'.upd i o) := by
  intro j o' hj; simp only [Store.upd] at hj ⊢; split at hj <;> rename_i e <;> simp [e] <;> first | exact hj | exact h j o' hj | (simpa using hj)
theorem le_upd {s : Store} {i : Nat} {o : Obj} (h : s i = none) : s.le (s.upd i o) := by
  intro j o' hj; simp only [Store.upd]; split
  · rename_i e; subst e; rw [h] at hj; cases hj
  · exact hj
theorem Kp.st {s s2 : Store} {v r : V} (hs : s2.le s) (h : r = v) : Kp s2 v r s := by subst h; exact ⟨hs, .refl _⟩

def ekv (e : Entry) : V × V := (.str (bs e.path), .agg [.str (bs e.value), .int .i64 e.version])
def dmap (L : Dir) : List (V × V) := L.map ekv
structure HasDir (s : Store) (d m : Nat) (L : Dir) : Prop where
  ptr : s d = some (.cells [.map m])
  map : s m = some (.map (dmap L))

theorem keq_str (a b : Bytes) : keq (.str (bs a)) (.str (bs b)) = (a == b) := by simp [keq, keqS, bs_toList]
theorem dmap_keys (L : Dir) : ∀ x ∈ dmap L, hasKK (KK.one SK.str) x.fst = true := by
  intro x hx
  obtain ⟨e, _, rfl⟩ := List.mem_map.1 hx
  rfl
theorem mlook_dmap (L : Dir) (p : Bytes) : mlook (dmap L) (.str (bs p)) = (dfind L p).map fun e => (ekv e).2 := by
  unfold mlook dmap dfind
  rw [List.find?_map, Option.map_map]
  congr 1
  congr 1
  funext e
  exact keq_str _ _
theorem mput_dmap : ∀ (L : Dir) (e : Entry), mput (dmap L) (.str (bs e.path)) (.agg [.str (bs e.value), .int .i64 e.version]) = dmap (dput L e)
  | [], e => rfl
  | x :: r, e => by
    have ih := mput_dmap r e
    simp only [dmap, List.map_cons, mput, dput, ekv] at ih ⊢
    rw [keq_str]
    by_cases h : e.path = x.path
    · simp [h, ekv]
    · simp [h, ih, ekv]
theorem mdel_dmap : ∀ (L : Dir) (p : Bytes), mdel (dmap L) (.str (bs p)) = dmap (ddel L p)
  | [], p => rfl
  | x :: r, p => by
    have ih := mdel_dmap r p
    simp only [dmap, List.map_cons, mdel, ddel, ekv] at ih ⊢
    rw [keq_str]
    by_cases h : p = x.path
    · simp [h]
    · simp [h, ih, ekv]

theorem look_dmap (L : Dir) (p : Bytes) : (mlook (dmap L) (.str (bs p))).getD (.agg [.str (ByteArray.mk #[]), .int .i64 0]) = .agg [.str (bs (dval L p)), .int .i64 (dver L p)] := by
  rw [mlook_dmap]
  unfold dval dver
  cases dfind L p <;> rfl
theorem isSome_dmap (L : Dir) (p : Bytes) : (mlook (dmap L) (.str (bs p))).isSome = (dfind L p).isSome := by
  rw [mlook_dmap]; cases dfind L p <;> rfl

theorem ac_there {s : Store} {d m : Nat} {L : Dir} (h : HasDir s d m L) (p : Bytes) : PAC Tryz.prog n_there [.ptr d 0, .str (bs p)] s (.bool (dthere L p)) := by
  refine PAC_of (H := h_there) (S := s_there) mixed fn_there ca_there ok_there ?_
  rw [e_there]
  refine ⟨_, _, _, h.ptr, rfl, rfl, _, rfl, _, .inl h.map, dmap_keys L, _, look_dmap L p, _, _, rfl, ?_⟩
  rw [isSome_dmap, bs_slash, bs_toList, bs_toList]
  unfold dthere
  cases (dfind L p).isSome <;> exact Kp.of rfl

theorem Wk.reply {r : Reply} {k : Cap} : Wk (r.enc k) (r.enc .any) := .agg ⟨.refl _, .refl _, .refl _, .cap _ _, trivial⟩

theorem ac_no (e : Int) (s : Store) : PAC Tryz.prog n_no [.int .i64 e] s ((rep0 e).enc .any) := by
  refine PAC_of (H := h_no) (S := s_no) mixed fn_no ca_no ok_no ?_
  rw [e_no]
  exact Kp.wk (.refl s) (Wk.reply (r := rep0 e) (k := .full))

theorem ac_right (c : Cmd) (s : Store) (hp : c.path.length ≤ 4294967296) : PAC Tryz.prog n_right [c.enc] s (.bool c.right) := by
  refine PAC_of (H := h_right) (S := s_right) mixed fn_right ca_right ok_right ?_
  rw [e_right]
  simp only [bs_toList, bs_slash, bs_size]
  have hv := (ac_pvalid c.path s hp)
  have e1 : decide ((c.value.length : Int) ≤ 64) = decide (c.value.length ≤ 64) := decide_eq_decide.2 (by omega)
  have e2 : (!(c.path == [47])) = (c.path != [47]) := rfl
  rw [e1]
  unfold Cmd.right
  cases h1 : c.op == 1 <;> cases h2 : c.op == 2 <;> cases h3 : c.op == 3 <;> cases h6 : c.op == 6 <;> simp only [Bool.not_true, Bool.not_false, cond_true, cond_false] <;>
    first
    | (exfalso; simp at h1 h2 h3 h6; omega)
    | (refine hv.use ⟨_, rfl, ?_⟩
       cases validP c.path <;> cases decide (c.value.length ≤ 64) <;> exact Kp.of (by simp [e2]))

theorem ac_set {s : Store} {d m : Nat} {L : Dir} (h : HasDir s d m L) (c : Cmd) : UAC Tryz.prog n_set [.ptr d 0, c.enc] s (s.upd m (.map (dmap (dset L c).1))) ((dset L c).2.enc .any) := by
  refine UAC_of (H := h_set) (S := s_set) mixed fn_set ca_set ok_set ?_
  rw [e_set]
  refine ⟨_, _, _, h.ptr, rfl, rfl, _, rfl, _, .inl h.map, dmap_keys L, _, look_dmap L _, _, _, rfl, _, _, _, h.ptr, rfl, rfl, _, rfl, _, h.map, dmap_keys L, ?_⟩
  have := mput_dmap L ⟨c.path, c.value, IntKind.i64.wrap (dver L c.path + 1)⟩
  simp only at this
  rw [this]
  exact ⟨.refl _, Wk.reply (r := (dset L c).2) (k := .full)⟩

theorem ac_get {s : Store} {d m : Nat} {L : Dir} (h : HasDir s d m L) (c : Cmd) : PAC Tryz.prog n_get [.ptr d 0, c.enc] s ((dget L c).2.enc .any) := by
  refine PAC_of (H := h_get) (S := s_get) mixed fn_get ca_get ok_get ?_
  rw [e_get]
  refine ⟨_, _, _, h.ptr, rfl, rfl, _, rfl, _, .inl h.map, dmap_keys L, _, look_dmap L _, _, _, rfl, _, _, _, h.ptr, rfl, rfl, _, rfl, _, .inl h.map, dmap_keys L, _, look_dmap L _, _, _, rfl, ?_⟩
  exact ⟨.refl _, Wk.reply (r := (dget L c).2) (k := .full)⟩

theorem ac_cas {s : Store} {d m : Nat} {L : Dir} (h : HasDir s d m L) (c : Cmd) : UAC Tryz.prog n_cas [.ptr d 0, c.enc] s (s.upd m (.map (dmap (dcas L c).1))) ((dcas L c).2.enc .any) := by
  refine UAC_of (H := h_cas) (S := s_cas) mixed fn_cas ca_cas ok_cas ?_
  rw [e_cas]
  refine ⟨_, _, _, h.ptr, rfl, rfl, _, rfl, _, .inl h.map, dmap_keys L, _, look_dmap L _, _, _, rfl, ?_⟩
  unfold dcas
  refine cond_of (fun h1 => ?_) (fun h1 => ?_)
  · have : dver L c.path ≠ c.version := by simpa using h1
    rw [if_pos this]
    simp only
    rw [upd_same h.map]
    exact ⟨.refl _, Wk.reply (r := ⟨5, [], dver L c.path, []⟩) (k := .full)⟩
  · have : ¬ dver L c.path ≠ c.version := by simpa using h1
    rw [if_neg this]
    exact (ac_set h c).use ⟨_, _, _, _, _, rfl, .refl _, .refl _⟩

theorem ac_create (hf : Fwd.on = false) {s : Store} {d m : Nat} {L : Dir} (h : HasDir s d m L) (c : Cmd) (hp : c.path.length ≤ 4294967296) :
    UAC Tryz.prog n_create [.ptr d 0, c.enc] s (s.upd m (.map (dmap (dcreate L c).1))) ((dcreate L c).2.enc .any) := by
  refine UAC_of (H := h_create) (S := s_create) mixed fn_create ca_create ok_create ?_
  rw [e_create]
  unfold dcreate
  refine (ac_there h c.path).use ⟨_, rfl, ?_⟩
  refine cond_of (fun h1 => ?_) (fun h1 => ?_)
  · rw [if_pos h1]
    simp only
    rw [upd_same h.map]
    exact (ac_no 3 s).use ⟨_, _, _, _, _, rfl, .refl _, .refl _⟩
  · rw [if_neg (by simp [h1])]
    refine (ac_parent hf c.path s hp).use ⟨_, rfl, ?_⟩
    refine (ac_there h _).use ⟨_, rfl, ?_⟩
    refine cond_of (fun h2 => ?_) (fun h2 => ?_)
    · rw [if_pos (by simpa using h2)]
      simp only
      rw [upd_same h.map]
      exact (ac_no 2 s).use ⟨_, _, _, _, _, rfl, .refl _, .refl _⟩
    · rw [if_neg (by simpa using h2)]
      refine ⟨_, _, _, h.ptr, rfl, rfl, _, rfl, _, h.map, dmap_keys L, ?_⟩
      have := mput_dmap L ⟨c.path, c.value, 1⟩
      simp only at this
      rw [this]
      exact ⟨.refl _, Wk.reply (r := ⟨0, [], 1, []⟩) (k := .full)⟩

theorem ac_dnew (s : Store) : AC Tryz.prog n_dnew [] s fun r s' => ∃ m d, s m = none ∧ s d = none ∧ d ≠ m ∧ r = .ptr d 0 ∧ s' = (s.upd m (.map [])).upd d (.cells [.map m]) := by
  refine AC_of_tfun (H := h_dnew) (S := s_dnew) (K := fun r s' => ∃ m d, s m = none ∧ s d = none ∧ d ≠ m ∧ r = .ptr d 0 ∧ s' = (s.upd m (.map [])).upd d (.cells [.map m])) mixed fn_dnew ca_dnew ok_dnew ?_ fun r s' h => ⟨r, s', .refl _, .refl _, h⟩
  rw [e_dnew]
  intro m hm d hd
  have hne : d ≠ m := fun e => by subst e; simp [Store.upd] at hd
  exact ⟨m, d, hm, by simpa [Store.upd, hne] using hd, hne, rfl, rfl⟩

end Go.Proofs.YtdeondiigpidnaaGreat.Ab
end

section
set_option linter.unusedVariables false
set_option linter.unusedSimpArgs false
/- Contracts: what is below a path; a directory's entries; a directory. -/
namespace Go.Proofs.YtdeondiigpidnaaGreat.Ab
open Go Go.Proofs Go.Sort
set_option linter.unusedVariables false
set_option linter.unusedSimpArgs false
set_option linter.unusedSectionVars false
variable [Fwd]

theorem PAC_ofF {P : Program} {H : Hints} {S : Shapes} (hm : P.follows .mixedOrders = true) {f : FuncId} {fn : Func} {args : List V} {s : Store} {v : V} (hf : P.funcs[f]? = some fn) (hc : callable P f = true)
    (hok : okFn H fn = true) (h : SOk s → tfun P H S fn args s fun r s' => Fz s' s r v) : PAC P f args s v :=
  AC_of_tfunF hm hf hc hok h fun r s' h => ⟨v, s, h, rfl, rfl⟩

theorem upd_del {s : Store} {i : Nat} {o : Obj} (h : s i = none) : (s.upd i o).del i = s := by
  funext j
  simp only [Store.del, Store.upd]
  split
  · rename_i e; subst e; exact h.symm
  · rfl
theorem Fz.id (s : Store) (r : V) : Fz s s r r := Fz.of (.refl r) (.refl s)

/-- a new list is a list, and nothing more -/
theorem Vw.freeze {s s' : Store} {sz : Nat} {r : V} {ks : List V} (h : Vw s s' sz r ks) : Fz s' s r (.sl ks .any) := by
  rcases h with ⟨rfl, rfl, rfl⟩ | ⟨id, h1, rfl, rfl⟩
  · intro c v hc hR hr
    simp only [rep] at hr
    refine ⟨c, rfl, rfl, .refl c, hR, hc, ?_⟩
    rcases hr with ⟨_, ad, rfl⟩ | ⟨_, _, _, _, _, _, h, _⟩
    · exact nil_sl c ad
    · exact absurd h (Nat.lt_irrefl _)
  · have := Fz.freeze (s := s.upd id (.arr sz ks)) (id := id) (off := 0) (len := ks.length) (sz := sz) (l := ks) (by simp [Store.upd]) (by simp)
    rw [upd_del h1] at this
    simpa using this

theorem upd_upd' {s : Store} {i : Nat} {o o' : Obj} : (s.upd i o).upd i o' = s.upd i o' := upd_upd

def below (p : Bytes) (L : Dir) : List Bytes := (L.filter fun e => parentP e.path == p).map fun e => lastP e.path
theorem below_perm {p : Bytes} {L L' : Dir} (h : L.Perm L') : (below p L).Perm (below p L') := (h.filter _).map _
theorem bytesLe_tr (a b c : Bytes) (h1 : bytesLe a b = true) (h2 : bytesLe b c = true) : bytesLe a c = true := by
  simp only [bytesLe, Bool.not_eq_true', decide_eq_false_iff_not] at *
  intro h
  rcases bytes_total a b with h3 | rfl | h3
  · exact h2 (List.lt_trans h h3)
  · exact h2 h
  · exact h1 h3
theorem bytesLe_tot (a b : Bytes) : (bytesLe a b || bytesLe b a) = true := by
  simp only [bytesLe, Bool.or_eq_true, Bool.not_eq_true', decide_eq_false_iff_not]
  rcases bytes_total a b with h3 | rfl | h3
  · exact .inl fun h => List.lt_irrefl _ (List.lt_trans h h3)
  · exact .inl (List.lt_irrefl _)
  · exact .inr fun h => List.lt_irrefl _ (List.lt_trans h h3)
theorem bytesLe_anti (a b : Bytes) (h1 : bytesLe a b = true) (h2 : bytesLe b a = true) : a = b := by
  simp only [bytesLe, Bool.not_eq_true', decide_eq_false_iff_not] at *
  rcases bytes_total a b with h3 | h3 | h3
  · exact absurd h3 h2
  · exact h3
  · exact absurd h3 h1
theorem dnames_perm {p : Bytes} {L : Dir} {l : List Bytes} (h : l.Perm (below p L)) : l.mergeSort bytesLe = dnames L p := sort_eq bytesLe_tr bytesLe_tot bytesLe_anti h

theorem dmap_split {left : Dir} {a b : List (V × V)} {k v : V} (h : dmap left = a ++ (k, v) :: b) : ∃ x e y, left = x ++ e :: y ∧ a = dmap x ∧ b = dmap y ∧ k = vstr e.path ∧ v = .agg [.str (bs e.value), .int .i64 e.version] := by
  unfold dmap at h
  obtain ⟨x, t, rfl, h1, h2⟩ := List.map_eq_append_iff.1 h
  obtain ⟨e, y, rfl, h3, h4⟩ := List.map_eq_cons_iff.1 h2
  simp only [ekv, Prod.mk.injEq] at h3
  exact ⟨x, e, y, rfl, h1.symm, h4.symm, h3.1.symm, h3.2.symm⟩

/-- what a function has in the store while it makes a list -/
def Acc (s s1 : Store) (it : Nat) (r : V) (acc : List Bytes) : Prop :=
  (acc = [] ∧ r = .vw 0 0 0 0) ∨ ∃ id, s id = none ∧ id ≠ it ∧ r = .vw id 1 0 acc.length ∧ s1 id = some (.arr 1 (acc.map vstr))

theorem ac_dnames (hf : Fwd.on = false) {s : Store} {d m : Nat} {L : Dir} (h : HasDir s d m L) (p : Bytes) (hL : L.length ≤ 4294967295) (hk : ∀ e ∈ L, e.path.length ≤ 4294967296) :
    PAC Tryz.prog n_dnames [.ptr d 0, .str (bs p)] s (strs (dnames L p) .any) := by
  refine PAC_ofF (H := h_dnames) (S := s_dnames) mixed fn_dnames ca_dnames ok_dnames fun hok => ?_
  rw [e_dnames]
  refine ⟨_, _, _, h.ptr, rfl, rfl, _, rfl, _, h.map, fun it hit => ?_⟩
  have him : it ≠ m := fun e => by subst e; rw [h.map] at hit; cases hit
  refine lfp_rule (fun vs s1 => ∃ cur left acc r, vs = [r] ∧ s1 it = some (.iter m cur (dmap left)) ∧ s1 m = some (.mapr (dmap L)) ∧ (∀ j o, j ≠ m → s j = some o → s1 j = some o) ∧ Acc s s1 it r acc ∧ (acc ++ below p left).Perm (below p L) ∧
      acc.length + left.length ≤ L.length ∧ ∀ e ∈ left, e ∈ L)
    (fun vs s1 => match s1 it with | some (.iter _ _ l) => l.length | _ => 0) ?_ ?_
  rotate_left
  · refine ⟨none, L, [], _, rfl, by simp [Store.upd], by simp [Store.upd, Ne.symm him], fun j o hj ho => ?_, .inl ⟨rfl, rfl⟩, by simp, by simp, fun e he => he⟩
    have : j ≠ it := fun e => by subst e; rw [hit] at ho; cases ho
    simp [Store.upd, hj, this, ho]
  rintro _ s1 ⟨cur, left, acc, r, rfl, h1, h2, h3, h4, h5, h6, h7⟩ X hX
  have hr : ∃ i z o n, r = .vw i z o n := by
    rcases h4 with ⟨_, rfl⟩ | ⟨id, _, _, rfl, _⟩ <;> exact ⟨_, _, _, _, rfl⟩
  obtain ⟨ri, rz, ro, rn, rfl⟩ := hr
  refine ⟨_, _, _, _, rfl, m, cur, _, _, h1, h2, fun hl => ?_, fun a k v b hab => ?_⟩
  · -- nothing is left
    have hl0 : left = [] := by simpa [dmap] using hl
    subst hl0
    have hp : acc.Perm (below p L) := by simpa [below] using h5
    have hback : ∀ s2 : Store, s2 m = some (.mapr (dmap L)) → (∀ j o, j ≠ m → s j = some o → s2 j = some o) → Fz s2 s (strs (dnames L p) .any) (strs (dnames L p) .any) := fun s2 g1 g2 => by
      refine Fz.back (.refl _) (fun i o ho => ?_) hok.iters
      by_cases him : i = m
      · subst him
        rw [h.map] at ho; cases ho
        exact .inr ⟨_, rfl, g1⟩
      · exact .inl (g2 i o him ho)
    rcases h4 with ⟨rfl, hr⟩ | ⟨id, g1, g2, hr, g4⟩
    · cases hr
      refine (ac_sortstr0 n_cmpstr s1 0 0 0).use ⟨rfl, ?_⟩
      have hd : dnames L p = [] := by
        rw [← dnames_perm hp]; simp
      have h0 : Fz s1 s1 (.vw 0 0 0 0) (.sl [] .any) := Vw.freeze (sz := 0) (.inl ⟨rfl, rfl, rfl⟩)
      have h8 := hback s1 h2 h3
      rw [hd] at h8 ⊢
      exact h0.trans h8
    · cases hr
      have hacc : acc.length ≤ 4294967296 := by have := h6; simp at this; omega
      refine AC.mono (ac_sortstr g4 hacc) ?_
      rintro r' s2 ⟨rfl, rfl⟩
      refine ⟨rfl, ?_⟩
      rw [dnames_perm hp]
      have hlen : acc.length = (dnames L p).length := by rw [← dnames_perm hp]; exact (List.mergeSort_perm _ _).length_eq.symm
      have h9 := Fz.freeze (s := s1.upd ri (.arr 1 ((dnames L p).map vstr))) (id := ri) (off := 0) (len := acc.length) (sz := 1) (l := (dnames L p).map vstr) (by simp [Store.upd]) (by simp [hlen])
      have e1 : (((dnames L p).map vstr).drop 0).take acc.length = (dnames L p).map vstr := by rw [List.drop_zero, List.take_of_length_le (by simp [hlen])]
      rw [e1] at h9
      refine h9.trans (hback _ ?_ fun j o hj ho => ?_)
      · have : m ≠ ri := fun e => by subst e; rw [h.map] at g1; cases g1
        simp [Store.upd, Store.del, this, h2]
      · have : j ≠ ri := fun e => by subst e; rw [g1] at ho; cases ho
        simp [Store.upd, Store.del, this, h3 j o hj ho]
  · -- one more
    obtain ⟨x, e, y, rfl, rfl, rfl, rfl, rfl⟩ := dmap_split hab
    let s2 := s1.upd it (.iter m (some (vstr e.path, .agg [.str (bs e.value), .int .i64 e.version])) (dmap x ++ dmap y))
    have hs2m : s2 m = some (.mapr (dmap L)) := by simp [s2, Store.upd, Ne.symm him, h2]
    have hs2 : ∀ j o, j ≠ m → s j = some o → s2 j = some o := fun j o hj ho => by
      have : j ≠ it := fun e => by subst e; rw [hit] at ho; cases ho
      simp [s2, Store.upd, this, h3 j o hj ho]
    have heL := h7 e (by simp)
    have hxy : dmap x ++ dmap y = dmap (x ++ y) := by simp [dmap]
    have hs2i : s2 it = some (.iter m (some (vstr e.path, .agg [.str (bs e.value), .int .i64 e.version])) (dmap (x ++ y))) := by simp [s2, Store.upd, hxy]
    have hlen1 : (match s1 it with | some (.iter _ _ l) => l.length | _ => 0) = x.length + (y.length + 1) := by simp [h1, dmap]
    refine ⟨m, vstr e.path, _, _, _, upd_at, hs2m, ?_⟩
    refine (ac_parent hf e.path s2 (hk e heL)).use ⟨_, rfl, ?_⟩
    rw [bs_toList, bs_toList]
    have hmem : ∀ e' ∈ x ++ y, e' ∈ L := fun e' he' => h7 e' (by rcases List.mem_append.1 he' with h | h <;> simp [h])
    have hple : acc.length + (x ++ y).length ≤ L.length := by simp at h6 ⊢; omega
    have hpar : ∀ {acc' : List Bytes}, (acc' ++ below p (x ++ y)).Perm (acc ++ below p (x ++ e :: y)) → (acc' ++ below p (x ++ y)).Perm (below p L) := fun h => h.trans h5
    refine cond_of (fun hb => ?_) (fun hb => ?_)
    · have hb' : (parentP e.path == p) = true := hb
      refine (ac_last e.path s2 (hk e heL)).use ⟨_, rfl, ?_⟩
      have hperm : ((acc ++ [lastP e.path]) ++ below p (x ++ y)).Perm (below p L) := by
        refine hpar ?_
        have : below p (x ++ e :: y) = below p x ++ lastP e.path :: below p y := by simp [below, List.filter_cons, hb']
        have h2 : below p (x ++ y) = below p x ++ below p y := by simp [below]
        rw [this, h2, List.append_assoc]
        refine List.Perm.append_left acc ?_
        exact (List.perm_middle (l₁ := below p x) (a := lastP e.path) (l₂ := below p y)).symm
      have go : ∀ id', s2 id' = none → X [.vw id' 1 0 (acc.length + 1)] ((vwDel s2 ri rz).upd id' (.arr 1 (acc.map vstr ++ [vstr (lastP e.path)]))) := by
        intro id' hid'
        have hsid : s id' = none := by
          cases hs : s id' with
          | none => rfl
          | some o =>
            by_cases hm : id' = m
            · subst hm; rw [hs2m] at hid'; cases hid'
            · rw [hs2 id' o hm hs] at hid'; cases hid'
        have hne : id' ≠ it := fun e => by subst e; rw [hs2i] at hid'; cases hid'
        have hnm : id' ≠ m := fun e => by subst e; rw [hs2m] at hid'; cases hid'
        -- what is taken away is the function's own
        have hdel : ∀ j o, s2 j = some o → (j = it ∨ j = m ∨ ∃ o', s j = some o') → (vwDel s2 ri rz) j = some o := by
          intro j o hj hor
          unfold vwDel
          cases hz : Nat.beq rz 0 with
          | true => exact hj
          | false =>
            rcases h4 with ⟨_, hr⟩ | ⟨id, g1, g2, hr, g4⟩
            · cases hr; simp at hz
            · cases hr
              have : j ≠ ri := fun e => by
                subst e
                rcases hor with h | h | ⟨o', h⟩
                · exact g2 h
                · subst h; rw [h.map] at g1; cases g1
                · rw [g1] at h; cases h
              simp [Store.del, this, hj]
        refine hX _ _ ⟨some (vstr e.path, .agg [.str (bs e.value), .int .i64 e.version]), x ++ y, acc ++ [lastP e.path], _, rfl, ?_, ?_, fun j o hj ho => ?_, .inr ⟨id', hsid, hne, by simp, by simp [Store.upd]⟩, hperm, by simp at h6 ⊢; omega, hmem⟩ ?_
        · rw [upd_ne (Ne.symm hne)]; exact hdel it _ hs2i (.inl rfl)
        · rw [upd_ne (Ne.symm hnm)]; exact hdel m _ hs2m (.inr (.inl rfl))
        · have : j ≠ id' := fun e => by subst e; rw [hsid] at ho; cases ho
          rw [upd_ne this]; exact hdel j o (hs2 j o hj ho) (.inr (.inr ⟨o, ho⟩))
        · rw [hlen1]
          have : ((vwDel s2 ri rz).upd id' (.arr 1 (acc.map vstr ++ [vstr (lastP e.path)]))) it = some (.iter m (some (vstr e.path, .agg [.str (bs e.value), .int .i64 e.version])) (dmap (x ++ y))) := by
            rw [upd_ne (Ne.symm hne)]; exact hdel it _ hs2i (.inl rfl)
          simp only [this, dmap, List.length_map, List.length_append]
          omega
      have hslc : slc s2 (.vw ri rz ro rn) = some (acc.map vstr) := by
        rcases h4 with ⟨rfl, hr⟩ | ⟨id, g1, g2, hr, g4⟩
        · cases hr; rfl
        · cases hr
          have : s2 ri = some (.arr 1 (acc.map vstr)) := by simp [s2, Store.upd, g2, g4]
          have h9 := slc_vw this
          simpa using h9
      refine ⟨acc.map vstr, [vstr (lastP e.path)], hslc, rfl, by simp at h6 ⊢; omega, vstr_len acc, ⟨vstr_fits _, trivial⟩, by omega, ?_, by simp, fun id' hid' => ?_⟩
      · rcases h4 with ⟨rfl, hr⟩ | ⟨id, g1, g2, hr, g4⟩
        · cases hr; exact .inl rfl
        · cases hr; exact .inr ⟨rfl, _, (upd_ne g2).trans g4⟩
      · have := go id' hid'
        simpa using this
    · have hb' : (parentP e.path == p) = false := hb
      refine hX _ _ ⟨some (vstr e.path, .agg [.str (bs e.value), .int .i64 e.version]), x ++ y, acc, _, rfl, hs2i, hs2m, hs2, ?_, ?_, hple, hmem⟩ ?_
      · rcases h4 with h | ⟨id, g1, g2, hr, g4⟩
        · exact .inl h
        · exact .inr ⟨id, g1, g2, hr, (upd_ne g2).trans g4⟩
      · refine hpar ?_
        have : below p (x ++ e :: y) = below p x ++ below p y := by simp [below, List.filter_cons, hb']
        have h2 : below p (x ++ y) = below p x ++ below p y := by simp [below]
        rw [this, h2]
      · rw [hlen1]
        show (match s2 it with | some (.iter _ _ l) => l.length | _ => 0) < _
        rw [hs2i]
        simp [dmap]

end Go.Proofs.YtdeondiigpidnaaGreat.Ab
end

section
set_option linter.unusedVariables false
set_option linter.unusedSimpArgs false
/- Contracts: a directory. -/
namespace Go.Proofs.YtdeondiigpidnaaGreat.Ab
open Go Go.Proofs Go.Sort
set_option linter.unusedVariables false
set_option linter.unusedSimpArgs false
set_option linter.unusedSectionVars false
variable [Fwd]

theorem HasDir.le {s s' : Store} {d m : Nat} {L : Dir} (h : HasDir s d m L) (hl : s.le s') : HasDir s' d m L := ⟨hl _ _ h.ptr, hl _ _ h.map⟩

/-- the keys of a directory, in order -/
theorem ac_sortedf (hf : Fwd.on = false) {s : Store} {kid m : Nat} {L : Dir} (h1 : s kid = some (.cells [.map m])) (h2 : s m = some (.map (dmap L))) (hv : ∀ e ∈ L, validP e.path = true) (hn : (L.map (·.path)).Nodup) (hl : L.length ≤ 4294967296) :
    AC Tryz.prog n_sortedf [.fn (.func n_keysf1) [] [.ptr kid 0], .fn (.func n_order) [] []] s fun r s' => s' = s ∧ ∃ ps : List Bytes, r = .sl (ps.map vstr) .any ∧ ps.Perm (L.map (·.path)) ∧ ps.Pairwise fun a b => ¬ namesP b < namesP a := by
  refine AC_of_tfunF (H := h_sortedf) (S := s_sortedf) (K := fun r s' => ∃ ps : List Bytes, Fz s' s r (.sl (ps.map vstr) .any) ∧ ps.Perm (L.map (·.path)) ∧ ps.Pairwise fun a b => ¬ namesP b < namesP a) mixed fn_sortedf ca_sortedf ok_sortedf (fun _ => ?_) fun r s' ⟨ps, h1, h2, h3⟩ => ⟨_, _, h1, rfl, ps, rfl, h2, h3⟩
  rw [e_sortedf]
  have hk : (dmap L).map Prod.fst = (L.map (·.path)).map vstr := by
    unfold dmap; rw [List.map_map, List.map_map]; rfl
  have hval : ∀ b ∈ L.map (·.path), validP b = true := fun b hb => by obtain ⟨e, he, rfl⟩ := List.mem_map.1 hb; exact hv e he
  have hlen : ∀ b ∈ L.map (·.path), b.length ≤ 4294967296 := fun b hb => by have := pth_len ⟨b, hval b hb⟩; simp at this; omega
  refine AC.mono (ac_coll_str hf (ρ := Tryz.collStr_ren) (ρ' := Tryz.keysStr_ren) Tryz.collStr Tryz.keysStr ca_collstr ca_keysf1 h1 h2 hk hn (by simpa [dmap] using hl) hlen) ?_
  rintro r s1 ⟨ks, hp, hvw⟩
  have hkv : ∀ b ∈ ks, validP b = true := fun b hb => hval b (hp.mem_iff.1 hb)
  let kp := ks.map toP
  have hkp : kp.map (·.1) = ks := toP_map hkv
  let sp := kp.mergeSort fun x y => !(ltOf cmpPth) y x
  have hsp : (sp.map (·.1)).Perm (L.map (·.path)) := by
    have h3 := (List.mergeSort_perm kp fun x y => !(ltOf cmpPth) y x).map (·.1)
    rw [hkp] at h3
    exact h3.trans hp
  have hpw : (sp.map (·.1)).Pairwise fun a b => ¬ namesP b < namesP a := by
    rw [List.pairwise_map]
    refine List.Pairwise.imp ?_ (List.pairwise_mergeSort (le := fun x y : Pth => !(ltOf cmpPth) y x) ?_ ?_ kp)
    · intro a b hab hlt
      rw [(cmpPth_lt b a).2 hlt] at hab; cases hab
    · intro a b c h3 h4
      simp only [Bool.not_eq_true'] at h3 h4 ⊢
      exact cmpPth_swo.ntrans _ _ _ h4 h3
    · intro a b
      cases h3 : ltOf cmpPth b a with
      | false => simp
      | true =>
        cases h4 : ltOf cmpPth a b with
        | false => simp
        | true => have := cmpPth_swo.trans _ _ _ h3 h4; rw [cmpPth_swo.irrefl] at this; cases this
  have hmap : ks.map vstr = kp.map fun p => vstr p.1 := by rw [← hkp, List.map_map]; rfl
  have hks : ks.length ≤ 4294967296 := by rw [hp.length_eq]; simpa using hl
  rcases hvw with ⟨h3, rfl, rfl⟩ | ⟨id, h3, rfl, rfl⟩
  · have hks0 : ks = [] := by simpa using h3
    refine ⟨_, _, _, _, rfl, (ac_sortstr0 n_order s1 0 0 0).use ⟨rfl, sp.map (·.1), ?_, hsp, hpw⟩⟩
    have : sp.map (·.1) = [] := by
      have := hsp.length_eq
      rw [← hp.length_eq, hks0] at this
      exact List.length_eq_zero_iff.1 this
    rw [this]
    exact Vw.freeze (sz := 0) (.inl ⟨rfl, rfl, rfl⟩)
  · refine ⟨_, _, _, _, rfl, ?_⟩
    have hs1 : (s.upd id (.arr 1 (ks.map vstr))) id = some (.arr 1 (kp.map fun p => vstr p.1)) := by rw [← hmap]; simp [Store.upd]
    have hkl : (ks.map vstr).length = kp.length := by simp [kp]
    rw [hkl]
    refine AC.mono (ac_sortpth hs1 (by simpa [kp] using hks)) ?_
    rintro r' s2 ⟨rfl, rfl⟩
    refine ⟨rfl, sp.map (·.1), ?_, hsp, hpw⟩
    rw [upd_upd]
    have hlen2 : kp.length = (sp.map fun p => vstr p.1).length := (List.mergeSort_perm kp fun x y => !(ltOf cmpPth) y x).length_eq.symm.trans (List.length_map _).symm
    rw [hlen2]
    have h9 := Vw.freeze (s := s) (s' := s.upd id (.arr 1 (sp.map fun p => vstr p.1))) (sz := 1) (.inr ⟨id, h3, rfl, rfl⟩)
    rw [List.map_map]
    exact h9

theorem ent_fits (e : Entry) : fits e.enc 3 := ⟨rfl, rfl⟩

theorem ac_entries (hf : Fwd.on = false) {s : Store} {d m : Nat} {L : Dir} (h : HasDir s d m L) (hv : ∀ e ∈ L, validP e.path = true) (hn : (L.map (·.path)).Nodup) (hl : L.length ≤ 4294967295) :
    PAC Tryz.prog n_entries [.ptr d 0] s (.sl ((dsorted L).map Entry.enc) .any) := by
  refine PAC_of (H := h_entries) (S := s_entries) mixed fn_entries ca_entries ok_entries ?_
  rw [e_entries]
  refine ⟨_, _, _, h.ptr, rfl, rfl, _, rfl, ?_⟩
  refine AC_of_tfun (H := h_keys1) (S := s_keys1) (K := fun r s' => ∃ k, s k = none ∧ r = .fn (.func n_keysf1) [] [.ptr k 0] ∧ s' = s.upd k (.cells [.map m])) mixed fn_keys1 ca_keys1 ok_keys1 (by rw [e_keys1]; exact fun k hk => ⟨k, hk, rfl, rfl⟩) ?_
  rintro _ _ ⟨k, hk, rfl, rfl⟩
  refine ⟨_, _, .refl _, .refl _, ?_⟩
  have hkm : m ≠ k := fun e => by subst e; rw [h.map] at hk; cases hk
  have hle : s.le (s.upd k (.cells [.map m])) := le_upd hk
  have h1 := h.le hle
  refine AC.mono (ac_sortedf hf (by simp [Store.upd]) h1.map hv hn (by omega)) ?_
  rintro r s1 ⟨rfl, ps, rfl, hp, hpw⟩
  refine ⟨_, _, rfl, ?_⟩
  have hE := dsorted_paths hv hn hp hpw
  have hpl : ps.length = L.length := by rw [hp.length_eq]; simp
  let s1 := s.upd k (.cells [.map m])
  let E := ps.map fun p => (⟨p, dval L p, dver L p⟩ : Entry)
  refine lfp_up ps.length (fun i vs s' => ∃ c, vs = [.sl ((E.take i).map Entry.enc) c, .int .i64 i] ∧ Own s1 3 c s') ?_ ⟨.full, rfl, .full⟩
  rintro i _ s2 hi ⟨c, rfl, ho⟩ X hX
  refine ⟨_, _, _, rfl, ?_⟩
  have h2 := h1.le ho.le
  simp only [List.length_map]
  refine cond_of (fun hc => ?_) (fun hc => ?_)
  · have hlt : i < ps.length := by simpa using hc
    refine ⟨by omega, vstr ps[i], by simp [hlt], _, rfl, _, _, _, h2.ptr, rfl, rfl, _, rfl, _, .inl h2.map, dmap_keys L, _, look_dmap L _, _, _, rfl, _, _, _, h2.ptr, rfl, rfl, _, rfl, _, .inl h2.map, dmap_keys L, _, look_dmap L _, _, _, rfl, ?_⟩
    have hEl : E.length = ps.length := by simp [E]
    refine tapp_own ho (by simp; omega) (fun e he => ?_) ⟨ent_fits ⟨ps[i], dval L ps[i], dver L ps[i]⟩, trivial⟩ fun c2 s3 ho3 => ?_
    · obtain ⟨x, _, rfl⟩ := List.mem_map.1 he; rfl
    · rw [wrap_small (by omega)]
      refine hX hlt _ _ ⟨c2, ?_, ho3⟩
      have : E.take (i + 1) = E.take i ++ [(⟨ps[i], dval L ps[i], dver L ps[i]⟩ : Entry)] := by
        rw [List.take_succ_eq_append_getElem (by omega)]; simp [E]
      rw [this, List.map_append]
      simp [Entry.enc]
  · have : i = ps.length := by simp at hc; omega
    subst this
    refine Kp.wk (hle.trans ho.le) ?_
    have e1 : E.take ps.length = dsorted L := by rw [← hE]; exact List.take_of_length_le (by simp [E])
    rw [e1]
    exact Wk.cap _ _

theorem ac_dclone {s : Store} {d m : Nat} {L : Dir} (h : HasDir s d m L) :
    AC Tryz.prog n_dclone [.ptr d 0] s fun r s' => ∃ m' d', s m' = none ∧ s d' = none ∧ d' ≠ m' ∧ r = .ptr d' 0 ∧ s' = (s.upd m' (.map (dmap L))).upd d' (.cells [.map m']) := by
  refine AC_of_tfun (H := h_dclone) (S := s_dclone) (K := fun r s' => ∃ m' d', s m' = none ∧ s d' = none ∧ d' ≠ m' ∧ r = .ptr d' 0 ∧ s' = (s.upd m' (.map (dmap L))).upd d' (.cells [.map m'])) mixed fn_dclone ca_dclone ok_dclone ?_ fun r s' h => ⟨r, s', .refl _, .refl _, h⟩
  rw [e_dclone]
  refine ⟨_, _, _, h.ptr, rfl, rfl, _, rfl, ?_⟩
  refine AC.mono (ac_mclone (ρ := Tryz.cloneStr_ren) Tryz.cloneStr ca_mclone1 h.map) ?_
  rintro _ _ ⟨m', hm', rfl, rfl⟩
  refine ⟨_, rfl, fun d' hd' => ?_⟩
  have hne : d' ≠ m' := fun e => by subst e; simp [Store.upd] at hd'
  exact ⟨m', d', hm', by simpa [Store.upd, hne] using hd', hne, rfl, rfl⟩

/-- what a directory's entries are held to -/
structure DirOk (L : Dir) : Prop where
  nodup : (L.map (·.path)).Nodup
  valid : ∀ e ∈ L, validP e.path = true
  len : L.length ≤ 4294967295
theorem DirOk.plen {L : Dir} (h : DirOk L) : ∀ e ∈ L, e.path.length ≤ 4294967296 := fun e he => by
  have := pth_len ⟨e.path, h.valid e he⟩; simp at this; omega

theorem ac_remove (hf : Fwd.on = false) {s : Store} {d m : Nat} {L : Dir} (h : HasDir s d m L) (hL : DirOk L) (c : Cmd) : UAC Tryz.prog n_remove [.ptr d 0, c.enc] s (s.upd m (.map (dmap (dremove L c).1))) ((dremove L c).2.enc .any) := by
  refine UAC_of (H := h_remove) (S := s_remove) mixed fn_remove ca_remove ok_remove ?_
  rw [e_remove]
  refine (ac_dnames hf h c.path hL.len hL.plen).use ⟨_, _, rfl, ?_⟩
  unfold dremove
  simp only [List.length_map]
  refine cond_of (fun h1 => ?_) (fun h1 => ?_)
  · have : dnames L c.path ≠ [] := fun e => by rw [e] at h1; simp at h1
    rw [if_pos this]
    simp only
    rw [upd_same h.map]
    exact (ac_no 4 s).use ⟨_, _, _, _, _, rfl, .refl _, .refl _⟩
  · have : ¬ dnames L c.path ≠ [] := fun hne => by
      have := List.length_pos_iff.2 hne
      simp at h1
      exact hne h1
    rw [if_neg this]
    refine ⟨_, _, _, h.ptr, rfl, rfl, _, rfl, _, h.map, dmap_keys L, ?_⟩
    rw [mdel_dmap]
    exact ⟨.refl _, Wk.reply (r := rep0 0) (k := .full)⟩

theorem ac_list (hf : Fwd.on = false) {s : Store} {d m : Nat} {L : Dir} (h : HasDir s d m L) (hL : DirOk L) (c : Cmd) : PAC Tryz.prog n_list [.ptr d 0, c.enc] s ((dlist L c).2.enc .any) := by
  refine PAC_of (H := h_list) (S := s_list) mixed fn_list ca_list ok_list ?_
  rw [e_list]
  refine (ac_dnames hf h c.path hL.len hL.plen).use ⟨_, _, rfl, .refl _, Wk.reply (r := (dlist L c).2) (k := .any)⟩

theorem UAC.of_pac {P : Program} {f : FuncId} {args : List V} {s : Store} {m : Nat} {o : Obj} {v : V} (h : PAC P f args s v) (hs : s m = some o) : UAC P f args s (s.upd m o) v :=
  AC.mono h fun r s' ⟨h1, h2⟩ => ⟨by rw [h1, upd_same hs], h2⟩

def opsMap : List (V × V) := [(.int .i64 2, .fn (.func n_remove) [] []), (.int .i64 3, .fn (.func n_set) [] []), (.int .i64 4, .fn (.func n_get) [] []), (.int .i64 5, .fn (.func n_list) [] []), (.int .i64 6, .fn (.func n_cas) [] [])]
theorem ac_ops (s : Store) : AC Tryz.prog n_ops [] s fun r s' => ∃ i, s i = none ∧ r = .map i ∧ s' = s.upd i (.map opsMap) := by
  refine AC_of_tfun (H := h_ops) (S := s_ops) (K := fun r s' => ∃ i, s i = none ∧ r = .map i ∧ s' = s.upd i (.map opsMap)) mixed fn_ops ca_ops ok_ops ?_ fun r s' h => ⟨r, s', .refl _, .refl _, h⟩
  rw [e_ops]
  intro i hi
  refine ⟨_, upd_at, by simp, _, upd_at, ?_, _, upd_at, ?_, _, upd_at, ?_, _, upd_at, ?_, i, hi, rfl, ?_⟩
  · intro x hx; simp [mput] at hx; subst hx; rfl
  · intro x hx; simp [mput, keq, keqS] at hx; rcases hx with rfl | rfl <;> rfl
  · intro x hx; simp [mput, keq, keqS] at hx; rcases hx with rfl | rfl | rfl <;> rfl
  · intro x hx; simp [mput, keq, keqS] at hx; rcases hx with rfl | rfl | rfl | rfl <;> rfl
  · simp only [upd_upd]
    rfl

theorem opsMap_keys : ∀ x ∈ opsMap, hasKK (KK.one (SK.int IntKind.i64)) x.fst = true := by
  intro x hx
  simp [opsMap] at hx
  rcases hx with rfl | rfl | rfl | rfl | rfl <;> rfl
theorem opsMap_look (n : Int) : (mlook opsMap (.int .i64 n)).getD .nilfn = if n = 2 then .fn (.func n_remove) [] [] else if n = 3 then .fn (.func n_set) [] [] else if n = 4 then .fn (.func n_get) [] [] else if n = 5 then .fn (.func n_list) [] [] else if n = 6 then .fn (.func n_cas) [] [] else .nilfn := by
  unfold mlook opsMap
  by_cases h2 : n = 2
  · subst h2; rfl
  by_cases h3 : n = 3
  · subst h3; rfl
  by_cases h4 : n = 4
  · subst h4; rfl
  by_cases h5 : n = 5
  · subst h5; rfl
  by_cases h6 : n = 6
  · subst h6; rfl
  have e2 : (n == 2) = false := by simpa using h2
  have e3 : (n == 3) = false := by simpa using h3
  have e4 : (n == 4) = false := by simpa using h4
  have e5 : (n == 5) = false := by simpa using h5
  have e6 : (n == 6) = false := by simpa using h6
  simp [h2, h3, h4, h5, h6, keq, keqS, List.find?_cons, e2, e3, e4, e5, e6]

end Go.Proofs.YtdeondiigpidnaaGreat.Ab
end

section
set_option linter.unusedVariables false
set_option linter.unusedSimpArgs false
/- Contracts: what a directory does; a directory out of entries. -/
namespace Go.Proofs.YtdeondiigpidnaaGreat.Ab
open Go Go.Proofs Go.Sort
set_option linter.unusedVariables false
set_option linter.unusedSimpArgs false
set_option linter.unusedSectionVars false
variable [Fwd]

theorem enc_open (r : Reply) (k : Cap) : r.enc k = .agg [.int .i64 r.err, .str (bs r.value), .int .i64 r.version, .sl (r.names.map vstr) k] := rfl

theorem get_fn (f : FuncId) (X : Bool → Prop) : get (eqV EK.func (.fn (.func f) [] []) V.nilfn) X = X false := rfl
theorem get_nil (X : Bool → Prop) : get (eqV EK.func V.nilfn V.nilfn) X = X true := rfl

theorem ac_dapply (hf : Fwd.on = false) {s : Store} {d m : Nat} {L : Dir} (h : HasDir s d m L) (hL : DirOk L) (c : Cmd) (hp : c.path.length ≤ 4294967296) :
    UAC Tryz.prog n_dapply [.ptr d 0, c.enc] s (s.upd m (.map (dmap (dApply L c).1))) ((dApply L c).2.enc .any) := by
  refine UAC_of (H := h_dapply) (S := s_dapply) mixed fn_dapply ca_dapply ok_dapply ?_
  rw [e_dapply]
  refine AC.mono (ac_ops s) ?_
  rintro _ _ ⟨i, hi, rfl, rfl⟩
  have hle : s.le (s.upd i (.map opsMap)) := le_upd hi
  refine ⟨hle, i, rfl, _, .inl upd_at, opsMap_keys, _, opsMap_look c.op, ?_⟩
  have h1 := h.le hle
  generalize s.upd i (.map opsMap) = s1 at hle h1
  have hright := ac_right c s1 hp
  have stay : ∀ {r : Reply}, dApply L c = (L, r) → ∀ {v : V}, PAC Tryz.prog n_no [.int .i64 r.err] s1 v → v = r.enc .any → AC Tryz.prog n_no [.int .i64 r.err] s1 fun v3 s4 => ∃ n5 t6 n7 l8 c9, v3 = V.agg [V.int IntKind.i64 n5, V.str t6, V.int IntKind.i64 n7, V.sl l8 c9] ∧
      Kp (s.upd m (.map (dmap (dApply L c).1))) ((dApply L c).2.enc .any) (V.agg [V.int IntKind.i64 n5, V.str t6, V.int IntKind.i64 n7, V.sl l8 c9]) s4 := by
    intro r hr v hv he
    subst he
    refine hv.use ⟨_, _, _, _, _, rfl, ?_⟩
    rw [hr]
    simp only
    rw [upd_same h.map]
    exact ⟨hle, .refl _⟩
  have up : ∀ {f : FuncId} {r : Dir × Reply}, dApply L c = r → UAC Tryz.prog f [.ptr d 0, c.enc] s1 (s1.upd m (.map (dmap r.1))) (r.2.enc .any) → AC Tryz.prog f [.ptr d 0, c.enc] s1 fun v3 s4 => ∃ n5 t6 n7 l8 c9, v3 = V.agg [V.int IntKind.i64 n5, V.str t6, V.int IntKind.i64 n7, V.sl l8 c9] ∧
      Kp (s.upd m (.map (dmap (dApply L c).1))) ((dApply L c).2.enc .any) (V.agg [V.int IntKind.i64 n5, V.str t6, V.int IntKind.i64 n7, V.sl l8 c9]) s4 := by
    intro f r hr hv
    rw [hr]
    exact hv.use ⟨_, _, _, _, _, rfl, upd_le hle, .refl _⟩
  have bad : (c.op < 1 ∨ 6 < c.op ∨ c.right = false) → dApply L c = (L, rep0 1) := fun hb => by unfold dApply; rw [if_pos hb]
  by_cases hop : 2 ≤ c.op ∧ c.op ≤ 6
  · -- an operation of what is there
    have key : ∀ {f : FuncId} (r : Dir × Reply), (c.right = true → dthere L c.path = true → dApply L c = r) → UAC Tryz.prog f [.ptr d 0, c.enc] s1 (s1.upd m (.map (dmap r.1))) (r.2.enc .any) →
        (AC Tryz.prog n_right [c.enc] s1 fun v52 s53 => ∃ b54, v52 = V.bool b54 ∧
          bif !b54 then AC Tryz.prog n_no [V.int IntKind.i64 1] s53 fun v55 s56 => ∃ n57 t58 n59 l60 c61, v55 = V.agg [V.int IntKind.i64 n57, V.str t58, V.int IntKind.i64 n59, V.sl l60 c61] ∧
            Kp (s.upd m (.map (dmap (dApply L c).1))) ((dApply L c).2.enc .any) (V.agg [V.int IntKind.i64 n57, V.str t58, V.int IntKind.i64 n59, V.sl l60 c61]) s56
          else AC Tryz.prog n_there [V.ptr d 0, V.str (bs c.path)] s53 fun v70 s71 => ∃ b72, v70 = V.bool b72 ∧
            bif !b72 then AC Tryz.prog n_no [V.int IntKind.i64 2] s71 fun v73 s74 => ∃ n75 t76 n77 l78 c79, v73 = V.agg [V.int IntKind.i64 n75, V.str t76, V.int IntKind.i64 n77, V.sl l78 c79] ∧
              Kp (s.upd m (.map (dmap (dApply L c).1))) ((dApply L c).2.enc .any) (V.agg [V.int IntKind.i64 n75, V.str t76, V.int IntKind.i64 n77, V.sl l78 c79]) s74
            else ∃ i80 l81 l82, V.fn (Fn.func f) [] [] = V.fn (Fn.func i80) l81 l82 ∧ AC Tryz.prog i80 (l81 ++ [V.ptr d 0, c.enc] ++ l82) s71 fun v83 s84 => ∃ n85 t86 n87 l88 c89, v83 = V.agg [V.int IntKind.i64 n85, V.str t86, V.int IntKind.i64 n87, V.sl l88 c89] ∧
              Kp (s.upd m (.map (dmap (dApply L c).1))) ((dApply L c).2.enc .any) (V.agg [V.int IntKind.i64 n85, V.str t86, V.int IntKind.i64 n87, V.sl l88 c89]) s84) := by
      intro f r hr hu
      refine hright.use ⟨_, rfl, ?_⟩
      refine cond_of (fun hb => ?_) (fun hb => ?_)
      · exact stay (bad (.inr (.inr (by simpa using hb)))) (ac_no 1 s1) rfl
      · have hb' : c.right = true := by simpa using hb
        refine (ac_there h1 c.path).use ⟨_, rfl, ?_⟩
        refine cond_of (fun ht => ?_) (fun ht => ?_)
        · have ht' : dthere L c.path = false := by simpa using ht
          refine stay (r := rep0 2) ?_ (ac_no 2 s1) rfl
          unfold dApply
          rw [if_neg (by simp [hb']; omega), if_neg (by omega), if_pos ht']
        · exact ⟨_, _, _, rfl, up (hr hb' (by simpa using ht)) hu⟩
    have val : ∀ n : Int, c.op = n → 2 ≤ n → n ≤ 6 → c.right = true → dthere L c.path = true → dApply L c = if n = 2 then dremove L c else if n = 3 then dset L c else if n = 4 then dget L c else if n = 5 then dlist L c else dcas L c := by
      intro n hn h2 h6 hr ht
      unfold dApply
      rw [if_neg (by simp [hr]; omega), if_neg (by omega), if_neg (by simp [ht]), hn]
    rcases (by omega : c.op = 2 ∨ c.op = 3 ∨ c.op = 4 ∨ c.op = 5 ∨ c.op = 6) with h2 | h2 | h2 | h2 | h2
    · rw [if_pos h2]
      rw [get_fn, cond_false]
      exact key _ (fun hr ht => by rw [val 2 h2 (by omega) (by omega) hr ht]; rfl) (ac_remove hf h1 hL c)
    · rw [if_neg (by omega), if_pos h2]
      rw [get_fn, cond_false]
      exact key _ (fun hr ht => by rw [val 3 h2 (by omega) (by omega) hr ht]; rfl) (ac_set h1 c)
    · rw [if_neg (by omega), if_neg (by omega), if_pos h2]
      rw [get_fn, cond_false]
      exact key _ (fun hr ht => by rw [val 4 h2 (by omega) (by omega) hr ht]; rfl) (UAC.of_pac (ac_get h1 c) h1.map)
    · rw [if_neg (by omega), if_neg (by omega), if_neg (by omega), if_pos h2]
      rw [get_fn, cond_false]
      exact key _ (fun hr ht => by rw [val 5 h2 (by omega) (by omega) hr ht]; rfl) (UAC.of_pac (ac_list hf h1 hL c) h1.map)
    · rw [if_neg (by omega), if_neg (by omega), if_neg (by omega), if_neg (by omega), if_pos h2]
      rw [get_fn, cond_false]
      exact key _ (fun hr ht => by rw [val 6 h2 (by omega) (by omega) hr ht]; rfl) (ac_cas h1 c)
  · rw [if_neg (by omega), if_neg (by omega), if_neg (by omega), if_neg (by omega), if_neg (by omega)]
    rw [get_nil, cond_true]
    refine cond_of (fun h2 => ?_) (fun h2 => ?_)
    · have h2' : c.op = 1 := by simpa using h2
      refine hright.use ⟨_, rfl, ?_⟩
      refine cond_of (fun hb => ?_) (fun hb => ?_)
      · exact stay (bad (.inr (.inr (by simpa using hb)))) (ac_no 1 s1) rfl
      · have hb' : c.right = true := by simpa using hb
        rw [get_nil, cond_true]
        refine up ?_ (ac_create hf h1 c hp)
        unfold dApply
        rw [if_neg (by simp [hb']; omega), if_pos h2']
    · have h2' : c.op ≠ 1 := by simpa using h2
      exact stay (bad (by omega)) (ac_no 1 s1) rfl

end Go.Proofs.YtdeondiigpidnaaGreat.Ab
end

section
set_option linter.unusedVariables false
set_option linter.unusedSimpArgs false
/- Contracts: a machine. -/
namespace Go.Proofs.YtdeondiigpidnaaGreat.Ab
open Go Go.Proofs Go.Sort
set_option linter.unusedVariables false
set_option linter.unusedSimpArgs false
set_option linter.unusedSectionVars false
variable [Fwd]

theorem ac_clone (l : List Bytes) (k : Cap) (s : Store) (hl : l.length ≤ 4294967296) : PAC Tryz.prog n_clone [strs l k] s (strs l .any) := by
  refine PAC_of (H := h_clone) (S := s_clone) mixed fn_clone ca_clone ok_clone ?_
  rw [e_clone]
  intro b hb
  refine cond_of (fun h => ?_) (fun h => ?_)
  · have : l = [] := by
      cases l with
      | nil => rfl
      | cons x r => rw [hb (by simp)] at h; cases h
    subst this
    exact Kp.wk (.refl s) (Wk.cap _ _)
  · refine tapp_own .full (by simpa using hl) (by simp) (allFit_map vstr_fits l) fun c2 s2 ho => ?_
    exact Kp.wk ho.le (by rw [List.nil_append]; exact Wk.cap _ _)

theorem ac_own (r : Reply) (k : Cap) (s : Store) (hl : r.names.length ≤ 4294967296) : PAC Tryz.prog n_own [r.enc k] s (r.enc .any) := by
  refine PAC_of (H := h_own) (S := s_own) mixed fn_own ca_own ok_own ?_
  rw [e_own]
  exact (ac_clone r.names k s hl).use ⟨_, _, rfl, Kp.mk⟩

def skv (e : Sess) : V × V := (.int .i64 e.client, .agg [.int .i64 e.seq, .int .i64 e.reply.err, .str (bs e.reply.value), .int .i64 e.reply.version, .sl (e.reply.names.map vstr) .any])
def smap (S : Lasts) : List (V × V) := S.map skv
/-- the machine at p -/
structure HasMach (s : Store) (p d m q : Nat) (M : Mach) : Prop where
  ptr : s p = some (.cells [.ptr d 0, .map q])
  dir : HasDir s d m M.dir
  lasts : s q = some (.map (smap M.lasts))
  ne : m ≠ q
theorem HasMach.le {s s' : Store} {p d m q : Nat} {M : Mach} (h : HasMach s p d m q M) (hl : s.le s') : HasMach s' p d m q M := ⟨hl _ _ h.ptr, h.dir.le hl, hl _ _ h.lasts, h.ne⟩

theorem keq_int (a b : Int) : keq (.int .i64 a) (.int .i64 b) = (a == b) := rfl
theorem smap_keys (S : Lasts) : ∀ x ∈ smap S, hasKK (KK.one (SK.int IntKind.i64)) x.fst = true := by
  intro x hx
  obtain ⟨e, _, rfl⟩ := List.mem_map.1 hx
  rfl
theorem mlook_smap (S : Lasts) (c : Int) : mlook (smap S) (.int .i64 c) = (sfind S c).map fun e => (skv e).2 := by
  unfold mlook smap sfind
  rw [List.find?_map, Option.map_map]
  rfl
theorem mput_smap : ∀ (S : Lasts) (e : Sess), mput (smap S) (.int .i64 e.client) (.agg [.int .i64 e.seq, .int .i64 e.reply.err, .str (bs e.reply.value), .int .i64 e.reply.version, .sl (e.reply.names.map vstr) .any]) = smap (sput S e)
  | [], e => rfl
  | x :: r, e => by
    have ih := mput_smap r e
    simp only [smap, List.map_cons, mput, sput, skv] at ih ⊢
    rw [keq_int]
    by_cases h : e.client = x.client
    · simp [h, skv]
    · simp [h, ih, skv]
/-- what is read of a client -/
theorem look_smap (S : Lasts) (c : Int) : ∃ k, (mlook (smap S) (.int .i64 c)).getD (.agg [.int .i64 0, .int .i64 0, .str (ByteArray.mk #[]), .int .i64 0, .sl [] .full]) =
    .agg [.int .i64 (sseq S c), .int .i64 (srep S c).err, .str (bs (srep S c).value), .int .i64 (srep S c).version, .sl ((srep S c).names.map vstr) k] := by
  rw [mlook_smap]
  unfold sseq srep
  cases sfind S c with
  | none => exact ⟨.full, rfl⟩
  | some e => exact ⟨.any, rfl⟩

/-- what a machine is held to -/
structure MachOk (M : Mach) : Prop where
  dir : DirOk M.dir
  nodup : (M.lasts.map (·.client)).Nodup
  range : ∀ e ∈ M.lasts, 0 ≤ e.client ∧ e.client ≤ 1099511627776 ∧ 1 ≤ e.seq ∧ e.seq ≤ 1099511627776
  names : ∀ e ∈ M.lasts, e.reply.names.length ≤ 4294967296
  len : M.lasts.length ≤ 4294967295

theorem MachOk.snames {M : Mach} (h : MachOk M) (c : Int) : (srep M.lasts c).names.length ≤ 4294967296 := by
  unfold srep
  cases hs : sfind M.lasts c with
  | none => simp [rep0]
  | some e => exact h.names e (List.mem_of_find?_eq_some hs)

theorem ac_snew (s : Store) : AC Tryz.prog n_snew [] s fun r s' => ∃ p d m q, r = .ptr p 0 ∧ s.le s' ∧ HasMach s' p d m q ⟨[], []⟩ ∧ s p = none ∧ s d = none ∧ s m = none ∧ s q = none := by
  refine AC_of_tfun (H := h_snew) (S := s_snew) (K := fun r s' => ∃ p d m q, r = .ptr p 0 ∧ s.le s' ∧ HasMach s' p d m q ⟨[], []⟩ ∧ s p = none ∧ s d = none ∧ s m = none ∧ s q = none) mixed fn_snew ca_snew ok_snew ?_ fun r s' h => ⟨r, s', .refl _, .refl _, h⟩
  rw [e_snew]
  refine AC.mono (ac_dnew s) ?_
  rintro _ _ ⟨m, d, hm, hd, hdm, rfl, rfl⟩
  refine ⟨d, rfl, fun q hq p hp => ?_⟩
  have hqd : q ≠ d := fun e => by subst e; simp [Store.upd] at hq
  have hqm : q ≠ m := fun e => by subst e; simp [Store.upd, Ne.symm hdm] at hq
  have hsq : s q = none := by simpa [Store.upd, hqd, hqm] using hq
  have hpq : p ≠ q := fun e => by subst e; simp [Store.upd] at hp
  have hpd : p ≠ d := fun e => by subst e; simp [Store.upd, Ne.symm hqd] at hp
  have hpm : p ≠ m := fun e => by subst e; simp [Store.upd, Ne.symm hqm, Ne.symm hdm] at hp
  have hsp : s p = none := by simpa [Store.upd, hpq, hpd, hpm] using hp
  refine ⟨p, d, m, q, rfl, fun i o hi => ?_, ⟨by simp [Store.upd], ⟨by simp [Store.upd, Ne.symm hpd, Ne.symm hqd], by simp [Store.upd, Ne.symm hpm, Ne.symm hqm, Ne.symm hdm, dmap]⟩, by simp [Store.upd, Ne.symm hpq, smap], Ne.symm hqm⟩, hsp, hd, hm, hsq⟩
  have h1 : i ≠ p := fun e => by subst e; rw [hsp] at hi; cases hi
  have h2 : i ≠ q := fun e => by subst e; rw [hsq] at hi; cases hi
  have h3 : i ≠ d := fun e => by subst e; rw [hd] at hi; cases hi
  have h4 : i ≠ m := fun e => by subst e; rw [hm] at hi; cases hi
  simp [Store.upd, h1, h2, h3, h4, hi]

/-- the store behind a machine's turn -/
def turned (s : Store) (m q : Nat) (M : Mach) : Store := (s.upd m (.map (dmap M.dir))).upd q (.map (smap M.lasts))
theorem turned_same {s : Store} {p d m q : Nat} {M : Mach} (h : HasMach s p d m q M) : turned s m q M = s := by
  unfold turned
  rw [upd_same h.dir.map, upd_same h.lasts]

theorem HasMach.turned {s : Store} {p d m q : Nat} {M : Mach} (h : HasMach s p d m q M) (M' : Mach) : HasMach (turned s m q M') p d m q M' := by
  have hpm : p ≠ m := fun e => by subst e; have := h.ptr; rw [h.dir.map] at this; cases this
  have hpq : p ≠ q := fun e => by subst e; have := h.ptr; rw [h.lasts] at this; cases this
  have hdm : d ≠ m := fun e => by subst e; have := h.dir.ptr; rw [h.dir.map] at this; cases this
  have hdq : d ≠ q := fun e => by subst e; have := h.dir.ptr; rw [h.lasts] at this; cases this
  exact ⟨by simp [Ab.turned, Store.upd, hpm, hpq, h.ptr], ⟨by simp [Ab.turned, Store.upd, hdm, hdq, h.dir.ptr], by simp [Ab.turned, Store.upd, h.ne]⟩, by simp [Ab.turned, Store.upd], h.ne⟩

theorem dnames_len (L : Dir) (p : Bytes) : (dnames L p).length ≤ L.length := by
  unfold dnames
  rw [(List.mergeSort_perm _ _).length_eq, List.length_map]
  exact List.length_filter_le _ _
theorem dApply_names {L : Dir} (hL : L.length ≤ 4294967295) (c : Cmd) : (dApply L c).2.names.length ≤ 4294967296 := by
  unfold dApply dcreate dremove dset dget dlist dcas dset
  have := dnames_len L c.path
  repeat' split
  all_goals first
    | (simp [rep0]; done)
    | (simp only; omega)

theorem ac_sapply (hf : Fwd.on = false) {s : Store} {p d m q : Nat} {M : Mach} (h : HasMach s p d m q M) (hM : MachOk M) (c : Cmd) (r : Reply) (k : Cap) (hp : c.path.length ≤ 4294967296) (hr : r.names.length ≤ 4294967296) :
    UAC Tryz.prog n_sapply [.ptr p 0, c.enc, r.enc k] s (turned s m q (mApply M c r).1) ((mApply M c r).2.enc .any) := by
  refine UAC_of (H := h_sapply) (S := s_sapply) mixed fn_sapply ca_sapply ok_sapply ?_
  rw [e_sapply]
  have stay : ∀ {r1 : Reply} {k1 : Cap} {v : V}, mApply M c r = (M, r1) → v = r1.enc k1 → Kp (turned s m q (mApply M c r).1) ((mApply M c r).2.enc .any) v s := by
    intro r1 k1 v he hv
    subst hv
    rw [he]
    simp only
    rw [turned_same h]
    exact ⟨.refl _, Wk.reply⟩
  refine cond_of (fun h0 => ?_) (fun h0 => ?_)
  · exact stay (r1 := rep0 0) (k1 := .full) (by unfold mApply; rw [if_pos (by simpa using h0)]) rfl
  have h0' : ¬ c.op = 0 := by simpa using h0
  refine (ac_valid c s).use ⟨_, rfl, ?_⟩
  refine cond_of (fun h1 => ?_) (fun h1 => ?_)
  · exact stay (r1 := rep0 1) (k1 := .full) (by unfold mApply; rw [if_neg h0', if_pos (by simpa using h1)]) rfl
  have h1' : ¬ c.ok = false := by simpa using h1
  obtain ⟨kx, hx⟩ := look_smap M.lasts c.client
  refine ⟨_, _, _, h.ptr, rfl, rfl, _, rfl, _, .inl h.lasts, smap_keys _, _, hx, _, _, _, _, _, _, rfl, ?_⟩
  refine cond_of (fun h2 => ?_) (fun h2 => ?_)
  · exact stay (r1 := rep0 6) (k1 := .full) (by unfold mApply; rw [if_neg h0', if_neg h1', if_pos (by simpa using h2)]) rfl
  have h2' : ¬ c.seq < sseq M.lasts c.client := by simpa using h2
  refine cond_of (fun h3 => ?_) (fun h3 => ?_)
  · have h3' : sseq M.lasts c.client = c.seq := by simpa using h3
    refine (ac_own (srep M.lasts c.client) kx s (hM.snames _)).use ⟨_, _, _, _, _, rfl, ?_⟩
    exact stay (r1 := srep M.lasts c.client) (k1 := .any) (by unfold mApply; rw [if_neg h0', if_neg h1', if_neg h2', if_pos h3']) rfl
  have h3' : ¬ sseq M.lasts c.client = c.seq := by simpa using h3
  -- what comes behind, by whatever reply
  have rest : ∀ (x : Dir × Reply) (k1 : Cap) (s1 : Store), (mApply M c r) = (⟨x.1, sput M.lasts ⟨c.client, c.seq, x.2⟩⟩, x.2) → x.2.names.length ≤ 4294967296 → s1 = s.upd m (.map (dmap x.1)) →
      AC Tryz.prog n_own [x.2.enc k1] s1 fun v61 s62 => s1.le s62 ∧ ∃ n63 t64 n65 l66 c67, v61 = V.agg [V.int IntKind.i64 n63, V.str t64, V.int IntKind.i64 n65, V.sl l66 c67] ∧ ∃ l68, s62 q = some (Obj.map l68) ∧ (∀ (x69 : V × V), x69 ∈ l68 → hasKK (KK.one (SK.int IntKind.i64)) x69.fst = true) ∧
        AC Tryz.prog n_own [x.2.enc k1] (s62.upd q (Obj.map (mput l68 (V.int IntKind.i64 c.client) (V.agg [V.int IntKind.i64 c.seq, V.int IntKind.i64 n63, V.str t64, V.int IntKind.i64 n65, V.sl l66 c67])))) fun v70 s71 => ∃ n72 t73 n74 l75 c76, v70 = V.agg [V.int IntKind.i64 n72, V.str t73, V.int IntKind.i64 n74, V.sl l75 c76] ∧
          Kp (turned s m q (mApply M c r).1) ((mApply M c r).2.enc .any) (V.agg [V.int IntKind.i64 n72, V.str t73, V.int IntKind.i64 n74, V.sl l75 c76]) s71 := by
    intro x k1 s1 hx hxl hs1
    have hq : s1 q = some (.map (smap M.lasts)) := by subst hs1; rw [upd_ne (Ne.symm h.ne)]; exact h.lasts
    refine (ac_own x.2 k1 s1 hxl).use ⟨.refl _, _, _, _, _, _, rfl, _, hq, smap_keys _, ?_⟩
    refine (ac_own x.2 k1 _ hxl).use ⟨_, _, _, _, _, rfl, ?_⟩
    rw [hx]
    refine ⟨?_, .refl _⟩
    simp only [turned]
    have := mput_smap M.lasts ⟨c.client, c.seq, x.2⟩
    simp only at this
    rw [this, hs1]
    exact .refl _
  refine (ac_control c s).use ⟨_, rfl, ?_⟩
  have hstep : mApply M c r = (⟨(if c.control = true then (M.dir, r) else dApply M.dir c).1, sput M.lasts ⟨c.client, c.seq, (if c.control = true then (M.dir, r) else dApply M.dir c).2⟩⟩, (if c.control = true then (M.dir, r) else dApply M.dir c).2) := by
    conv => lhs; unfold mApply
    rw [if_neg h0', if_neg h1', if_neg h2', if_neg h3']
  refine cond_of (fun h4 => ?_) (fun h4 => ?_)
  · have h4' : ¬ c.control = true := by simpa using h4
    rw [if_neg h4'] at hstep
    refine ⟨_, _, _, h.ptr, rfl, rfl, _, rfl, ?_⟩
    refine (ac_dapply hf h.dir hM.dir c hp).use ⟨_, _, _, _, _, rfl, ?_⟩
    have hpm : p ≠ m := fun e => by subst e; have := h.ptr; rw [h.dir.map] at this; cases this
    refine ⟨_, _, _, (upd_ne hpm).trans h.ptr, rfl, rfl, _, rfl, ?_⟩
    exact rest (dApply M.dir c) .any _ hstep (dApply_names hM.dir.len c) rfl
  · have h4' : c.control = true := by simpa using h4
    rw [if_pos h4'] at hstep
    refine ⟨_, _, _, h.ptr, rfl, rfl, _, rfl, ?_⟩
    exact rest (M.dir, r) k s hstep hr (upd_same h.dir.map).symm

end Go.Proofs.YtdeondiigpidnaaGreat.Ab
end

section
set_option linter.unusedVariables false
set_option linter.unusedSimpArgs false
/- Contracts: a machine's entries and sessions; one like it; one out of what there is. -/
namespace Go.Proofs.YtdeondiigpidnaaGreat.Ab
open Go Go.Proofs Go.Sort
set_option linter.unusedVariables false
set_option linter.unusedSimpArgs false
set_option linter.unusedSectionVars false
variable [Fwd]

theorem ac_srow (a b : List Sess) (k k2 : Cap) (s : Store) (hm : a.length ≤ 4294967296) (hn : ∀ e ∈ a, e.reply.names.length ≤ 4294967296) :
    PAC Tryz.prog n_srow [.sl (a.map Sess.enc) k, .sl (b.map Sess.enc) k2] s (.bool (decide (a = b))) := by
  refine PAC_of (H := h_srow) (S := s_srow) mixed fn_srow ca_srow ok_srow ?_
  rw [e_srow]
  simp only [List.length_map]
  refine cond_of (fun h4 => ?_) (fun h4 => ?_)
  · exact Kp.of (congrArg V.bool (by simp at h4 ⊢; intro h; rw [h] at h4; exact absurd rfl h4))
  simp at h4
  refine lfp_up a.length (fun i vs s' => vs = [V.int .i64 i] ∧ s = s' ∧ ∀ j < i, a[j]? = b[j]?) ?_ ⟨rfl, rfl, fun j h => absurd h (by omega)⟩
  rintro i _ _ hi ⟨rfl, rfl, hb⟩ X hX
  refine ⟨i, rfl, ?_⟩
  refine cond_of (fun h5 => ?_) (fun h5 => ?_)
  · simp at h5
    have g1 : (a.map Sess.enc)[(i : Int).toNat]? = some (Sess.enc a[i]) := by simp [h5]
    have h6 : i < b.length := by omega
    have g2 : (b.map Sess.enc)[(i : Int).toNat]? = some (Sess.enc b[i]) := by simp [h6]
    have hne : a[i] ≠ b[i] → Kp s (.bool (decide (a = b))) (.bool false) s := fun h => by
      refine Kp.of (congrArg V.bool ?_)
      simp
      rintro rfl
      exact h rfl
    refine ⟨by omega, _, g1, _, _, _, _, _, _, _, rfl, by omega, _, g2, _, _, _, _, _, _, _, rfl, ?_⟩
    refine (ac_same a[i].reply b[i].reply .any .any s (hn _ (List.getElem_mem _))).use ⟨.refl _, _, rfl, by omega, _, g1, _, _, _, _, _, _, _, rfl, by omega, _, g2, _, _, _, _, _, _, _, rfl, ?_⟩
    refine cond_of (fun h7 => ?_) (fun h7 => ?_)
    · refine ⟨by omega, _, g1, _, _, _, _, _, _, _, rfl, by omega, _, g2, _, _, _, _, _, _, _, rfl, ?_⟩
      refine cond_of (fun h8 => ?_) (fun h8 => ?_)
      · refine cond_of (fun h9 => ?_) (fun h9 => ?_)
        · exact hne fun e => by rw [e] at h9; simp at h9
        · rw [wrap_small (by omega)]
          refine hX h5 _ _ ⟨by simp, rfl, fun j hj => ?_⟩
          by_cases hji : j = i
          · subst hji
            have : a[j] = b[j] := by
              simp at h7 h8 h9
              cases ha : a[j]; cases hb : b[j]
              rw [ha, hb] at h7 h8 h9
              simp at h7 h8 h9
              simp [h7, h8, h9]
            simp [h5, h6, this]
          · exact hb j (by omega)
      · exact hne fun e => by rw [e] at h8; simp at h8
    · exact hne fun e => by rw [e] at h7; simp at h7
  · refine Kp.of (congrArg V.bool ?_)
    simp at h5
    have : a = b := list_eq_of (by omega) fun j hj => hb j (by omega)
    simp [this]

theorem ac_spaths (hf : Fwd.on = false) {s : Store} {p d m q : Nat} {M : Mach} (h : HasMach s p d m q M) (hM : MachOk M) : PAC Tryz.prog n_spaths [.ptr p 0] s (.sl ((dsorted M.dir).map Entry.enc) .any) := by
  refine PAC_of (H := h_spaths) (S := s_spaths) mixed fn_spaths ca_spaths ok_spaths ?_
  rw [e_spaths]
  refine ⟨_, _, _, h.ptr, rfl, rfl, _, rfl, ?_⟩
  exact (ac_entries hf h.dir hM.dir.valid hM.dir.nodup hM.dir.len).use ⟨_, _, rfl, Kp.mk⟩

theorem ses_fits (e : Sess) : fits e.enc 6 := ⟨rfl, rfl⟩

theorem ac_sortedi (hf : Fwd.on = false) {s : Store} {kid q : Nat} {S : Lasts} (h1 : s kid = some (.cells [.map q])) (h2 : s q = some (.map (smap S))) (hn : (S.map (·.client)).Nodup) (hr : ∀ e ∈ S, 0 ≤ e.client ∧ e.client ≤ 1099511627776) (hl : S.length ≤ 4294967296) :
    AC Tryz.prog n_sortedi [.fn (.func n_keysf2) [] [.ptr kid 0]] s fun r s' => s' = s ∧ ∃ ps : List Int, r = .sl (ps.map fun n => V.int .i64 n) .any ∧ ps.Perm (S.map (·.client)) ∧ ps.Pairwise fun a b => a ≤ b := by
  refine AC_of_tfunF (H := h_sortedi) (S := s_sortedi) (K := fun r s' => ∃ ps : List Int, Fz s' s r (.sl (ps.map fun n => V.int .i64 n) .any) ∧ ps.Perm (S.map (·.client)) ∧ ps.Pairwise fun a b => a ≤ b) mixed fn_sortedi ca_sortedi ok_sortedi (fun _ => ?_) fun r s' ⟨ps, h1, h2, h3⟩ => ⟨_, _, h1, rfl, ps, rfl, h2, h3⟩
  rw [e_sortedi]
  have hk : (smap S).map Prod.fst = (S.map (·.client)).map fun n => V.int .i64 n := by
    unfold smap; rw [List.map_map, List.map_map]; rfl
  refine AC.mono (ac_coll_int hf (ρ := Tryz.collInt_ren) (ρ' := Tryz.keysInt_ren) Tryz.collInt Tryz.keysInt ca_collint ca_keysf2 h1 h2 hk hn (by simpa [smap] using hl) (fun b hb => by
    obtain ⟨e, he, rfl⟩ := List.mem_map.1 hb
    have := hr e he; omega)) ?_
  rintro r s1 ⟨ks, hp, hvw⟩
  have hks : ks.length ≤ 4294967296 := by rw [hp.length_eq]; simpa using hl
  have hsp : (ks.mergeSort leInt).Perm (S.map (·.client)) := (List.mergeSort_perm ks leInt).trans hp
  have hpw : (ks.mergeSort leInt).Pairwise fun a b => a ≤ b := by
    refine List.Pairwise.imp ?_ (List.pairwise_mergeSort (le := leInt) ?_ ?_ ks)
    · intro a b h; simpa [leInt] using h
    · intro a b c h3 h4; simp only [leInt, decide_eq_true_eq] at *; omega
    · intro a b; simp only [leInt, Bool.or_eq_true, decide_eq_true_eq]; omega
  rcases hvw with ⟨h3, rfl, rfl⟩ | ⟨id, h3, rfl, rfl⟩
  · have hks0 : ks = [] := by simpa using h3
    refine ⟨_, _, _, _, rfl, (ac_sortint0 s1 0 0 0).use ⟨rfl, ks.mergeSort leInt, ?_, hsp, hpw⟩⟩
    rw [hks0]
    exact Vw.freeze (sz := 0) (.inl ⟨by simp, rfl, rfl⟩)
  · refine ⟨_, _, _, _, rfl, ?_⟩
    have hs1 : (s.upd id (.arr 1 (ks.map fun n => V.int .i64 n))) id = some (.arr 1 (ks.map fun n => V.int .i64 n)) := by simp [Store.upd]
    rw [List.length_map]
    refine AC.mono (ac_sortint hs1 hks) ?_
    rintro r' s2 ⟨rfl, rfl⟩
    refine ⟨rfl, ks.mergeSort leInt, ?_, hsp, hpw⟩
    rw [upd_upd]
    have hlen2 : ks.length = ((ks.mergeSort leInt).map fun n => V.int .i64 n).length := by rw [List.length_map]; exact (List.mergeSort_perm ks leInt).length_eq.symm
    rw [hlen2]
    exact Vw.freeze (s := s) (sz := 1) (.inr ⟨id, h3, rfl, rfl⟩)

theorem ac_ssess (hf : Fwd.on = false) {s : Store} {p d m q : Nat} {M : Mach} (h : HasMach s p d m q M) (hM : MachOk M) : PAC Tryz.prog n_ssess [.ptr p 0] s (.sl ((ssorted M.lasts).map Sess.enc) .any) := by
  refine PAC_of (H := h_ssess) (S := s_ssess) mixed fn_ssess ca_ssess ok_ssess ?_
  rw [e_ssess]
  refine ⟨_, _, _, h.ptr, rfl, rfl, _, rfl, ?_⟩
  refine AC_of_tfun (H := h_keys2) (S := s_keys2) (K := fun r s' => ∃ k, s k = none ∧ r = .fn (.func n_keysf2) [] [.ptr k 0] ∧ s' = s.upd k (.cells [.map q])) mixed fn_keys2 ca_keys2 ok_keys2 (by rw [e_keys2]; exact fun k hk => ⟨k, hk, rfl, rfl⟩) ?_
  rintro _ _ ⟨k, hk, rfl, rfl⟩
  refine ⟨_, _, .refl _, .refl _, ?_⟩
  have hle : s.le (s.upd k (.cells [.map q])) := le_upd hk
  have h1 := h.le hle
  refine AC.mono (ac_sortedi hf (by simp [Store.upd]) h1.lasts hM.nodup (fun e he => by have := hM.range e he; omega) (by have := hM.len; omega)) ?_
  rintro r s1 ⟨rfl, ps, rfl, hp, hpw⟩
  refine ⟨_, _, rfl, ?_⟩
  have hE := ssorted_clients hM.nodup hp hpw
  have hpl : ps.length = M.lasts.length := by rw [hp.length_eq]; simp
  let s1 := s.upd k (.cells [.map q])
  let E := ps.map fun p => (⟨p, sseq M.lasts p, srep M.lasts p⟩ : Sess)
  have hlen := hM.len
  refine lfp_up ps.length (fun i vs s' => ∃ c, vs = [.sl ((E.take i).map Sess.enc) c, .int .i64 i] ∧ Own s1 6 c s') ?_ ⟨.full, rfl, .full⟩
  rintro i _ s2 hi ⟨c, rfl, ho⟩ X hX
  refine ⟨_, _, _, rfl, ?_⟩
  have h2 := h1.le ho.le
  simp only [List.length_map]
  refine cond_of (fun hc => ?_) (fun hc => ?_)
  · have hlt : i < ps.length := by simpa using hc
    obtain ⟨kx, hx⟩ := look_smap M.lasts ps[i]
    refine ⟨by omega, .int .i64 ps[i], by simp [hlt], _, rfl, _, _, _, h2.ptr, rfl, rfl, _, rfl, _, .inl h2.lasts, smap_keys _, _, hx, _, _, _, _, _, _, rfl, _, _, _, h2.ptr, rfl, rfl, _, rfl, _, .inl h2.lasts, smap_keys _, _, hx, _, _, _, _, _, _, rfl, ?_⟩
    have hEl : E.length = ps.length := by simp [E]
    refine (ac_own (srep M.lasts ps[i]) kx s2 (hM.snames _)).use ⟨.refl _, _, _, _, _, _, rfl, ?_⟩
    refine tapp_own ho (by simp; omega) (fun e he => ?_) ⟨ses_fits ⟨ps[i], sseq M.lasts ps[i], srep M.lasts ps[i]⟩, trivial⟩ fun c2 s3 ho3 => ?_
    · obtain ⟨x, _, rfl⟩ := List.mem_map.1 he; rfl
    · rw [wrap_small (by omega)]
      refine hX hlt _ _ ⟨c2, ?_, ho3⟩
      have : E.take (i + 1) = E.take i ++ [(⟨ps[i], sseq M.lasts ps[i], srep M.lasts ps[i]⟩ : Sess)] := by
        rw [List.take_succ_eq_append_getElem (by omega)]; simp [E]
      rw [this, List.map_append]
      simp [Sess.enc]
  · have : i = ps.length := by simp at hc; omega
    subst this
    refine Kp.wk (hle.trans ho.le) ?_
    have e1 : E.take ps.length = ssorted M.lasts := by rw [← hE]; exact List.take_of_length_le (by simp [E])
    rw [e1]
    exact Wk.cap _ _

/-- what is new in a store, and what was there -/
theorem ac_sclone {s : Store} {p d m q : Nat} {M : Mach} (h : HasMach s p d m q M) : AC Tryz.prog n_sclone [.ptr p 0] s fun r s' => ∃ p' d' m' q', r = .ptr p' 0 ∧ s.le s' ∧ HasMach s' p' d' m' q' M ∧ s p' = none ∧ s d' = none ∧ s m' = none ∧ s q' = none := by
  refine AC_of_tfun (H := h_sclone) (S := s_sclone) (K := fun r s' => ∃ p' d' m' q', r = .ptr p' 0 ∧ s.le s' ∧ HasMach s' p' d' m' q' M ∧ s p' = none ∧ s d' = none ∧ s m' = none ∧ s q' = none) mixed fn_sclone ca_sclone ok_sclone ?_ fun r s' h => ⟨r, s', .refl _, .refl _, h⟩
  rw [e_sclone]
  refine ⟨_, _, _, h.ptr, rfl, rfl, _, rfl, _, _, _, h.ptr, rfl, rfl, _, rfl, ?_⟩
  refine AC.mono (ac_dclone h.dir) ?_
  rintro _ _ ⟨m', d', hm, hd, hdm, rfl, rfl⟩
  have hle1 : s.le ((s.upd m' (.map (dmap M.dir))).upd d' (.cells [.map m'])) := (le_upd hm).trans (le_upd (by rw [upd_ne hdm]; exact hd))
  refine ⟨hle1, _, rfl, ?_⟩
  refine AC.mono (ac_mclone (ρ := Tryz.cloneInt_ren) Tryz.cloneInt ca_mclone2 (h.le hle1).lasts) ?_
  rintro _ _ ⟨q', hq, rfl, rfl⟩
  refine ⟨le_upd hq, _, rfl, fun p' hp => ?_⟩
  have hqd : q' ≠ d' := fun e => by subst e; simp [Store.upd] at hq
  have hqm : q' ≠ m' := fun e => by subst e; simp [Store.upd, Ne.symm hdm] at hq
  have hsq : s q' = none := by simpa [Store.upd, hqd, hqm] using hq
  have hpq : p' ≠ q' := fun e => by subst e; simp [Store.upd] at hp
  have hpd : p' ≠ d' := fun e => by subst e; simp [Store.upd, Ne.symm hqd] at hp
  have hpm : p' ≠ m' := fun e => by subst e; simp [Store.upd, Ne.symm hqm, Ne.symm hdm] at hp
  have hsp : s p' = none := by simpa [Store.upd, hpq, hpd, hpm] using hp
  refine ⟨p', d', m', q', rfl, (hle1.trans (le_upd hq)).trans (le_upd hp), ⟨by simp [Store.upd], ⟨by simp [Store.upd, Ne.symm hpd, Ne.symm hqd], by simp [Store.upd, Ne.symm hpm, Ne.symm hqm, Ne.symm hdm]⟩, by simp [Store.upd, Ne.symm hpq], Ne.symm hqm⟩, hsp, hd, hm, hsq⟩

def Mach.same (M N : Mach) : Bool := decide (dsorted M.dir = dsorted N.dir ∧ ssorted M.lasts = ssorted N.lasts)
theorem MachOk.dlen {M : Mach} (h : MachOk M) : (dsorted M.dir).length ≤ 4294967296 := by rw [(dsorted_perm _).length_eq]; have := h.dir.len; omega
theorem MachOk.slen {M : Mach} (h : MachOk M) : (ssorted M.lasts).length ≤ 4294967296 := by rw [(ssorted_perm _).length_eq]; have := h.len; omega
theorem ac_same9 (hf : Fwd.on = false) {s : Store} {p d m q p' d' m' q' : Nat} {M N : Mach} (h : HasMach s p d m q M) (hM : MachOk M) (h' : HasMach s p' d' m' q' N) (hN : MachOk N) : PAC Tryz.prog n_same9 [.ptr p 0, .ptr p' 0] s (.bool (M.same N)) := by
  refine PAC_of (H := h_same9) (S := s_same9) mixed fn_same9 ca_same9 ok_same9 ?_
  rw [e_same9]
  refine (ac_spaths hf h hM).use ⟨_, _, rfl, (ac_spaths hf h' hN).use ⟨_, _, rfl, ?_⟩⟩
  refine (ac_row _ _ .any .any s hM.dlen).use ⟨_, rfl, ?_⟩
  unfold Mach.same
  refine cond_of (fun h1 => ?_) (fun h1 => ?_)
  · have h1' := of_decide_eq_true h1
    refine (ac_ssess hf h hM).use ⟨_, _, rfl, (ac_ssess hf h' hN).use ⟨_, _, rfl, ?_⟩⟩
    refine (ac_srow _ _ .any .any s hM.slen (fun e he => hM.names e ((ssorted_perm _).mem_iff.1 he))).use ⟨_, rfl, Kp.of (congrArg V.bool ?_)⟩
    simp [h1']
  · have h1' := of_decide_eq_false h1
    exact Kp.of (congrArg V.bool (by simp [h1']))

end Go.Proofs.YtdeondiigpidnaaGreat.Ab
end

section
set_option linter.unusedVariables false
set_option linter.unusedSimpArgs false
/- Contracts: a directory, and a machine, out of what there is. -/
namespace Go.Proofs.YtdeondiigpidnaaGreat.Ab
open Go Go.Proofs Go.Sort
set_option linter.unusedVariables false
set_option linter.unusedSimpArgs false
set_option linter.unusedSectionVars false
variable [Fwd]

theorem lessP_valid {p q : Bytes} (h : lessP p q = true) : validP p = true ∧ validP q = true := by
  unfold lessP at h
  unfold validP
  cases h1 : splitP p <;> cases h2 : splitP q <;> simp [h1, h2] at h ⊢
theorem depth_valid {p : Bytes} (h : 1 ≤ depthP p) : validP p = true := by
  unfold depthP at h
  unfold validP
  cases h1 : splitP p <;> simp [h1] at h ⊢

/-- entries that were found right so far -/
def DRise (D : Dir) : Prop := D.Pairwise (fun a b => namesP a.path < namesP b.path) ∧ ∀ e ∈ D, validP e.path = true
theorem DRise.snoc {D : Dir} {e : Entry} (h : DRise D) (he : entOk D e = true) : DRise (D ++ [e]) := by
  unfold entOk at he
  simp only [Bool.and_eq_true, decide_eq_true_eq] at he
  obtain ⟨⟨⟨⟨h1, _⟩, _⟩, h4⟩, _⟩ := he
  have hv := depth_valid h1
  refine ⟨?_, fun x hx => ?_⟩
  · rw [List.pairwise_append]
    refine ⟨h.1, by simp, fun a ha b hb => ?_⟩
    rw [List.mem_singleton] at hb
    subst hb
    unfold lastLess at h4
    cases hl : D.getLast? with
    | none => rw [List.getLast?_eq_none_iff] at hl; subst hl; simp at ha
    | some x =>
      rw [hl] at h4
      simp only [Option.map_some, Option.getD_some] at h4
      have hx : x ∈ D := List.mem_of_getLast? hl
      have hlt := (lessP_iff (h.2 x hx) hv).1 h4
      obtain ⟨t, ht⟩ := List.getLast?_eq_some_iff.1 hl
      rw [ht] at ha
      rcases List.mem_append.1 ha with ha | ha
      · have h5 := h.1
        rw [ht, List.pairwise_append] at h5
        exact names_trans (h5.2.2 a ha x (by simp)) hlt
      · rw [List.mem_singleton] at ha; subst ha; exact hlt
  · rcases List.mem_append.1 hx with hx | hx
    · exact h.2 x hx
    · rw [List.mem_singleton] at hx; subst hx; exact hv
theorem DRise.new {D : Dir} {e : Entry} (h : DRise (D ++ [e])) : ∀ x ∈ D, e.path ≠ x.path := by
  intro x hx heq
  have := (List.pairwise_append.1 h.1).2.2 x hx e (by simp)
  rw [heq] at this
  exact names_irrefl _ this
theorem DRise.nodup {D : Dir} (h : DRise D) : (D.map (·.path)).Nodup := by
  rw [List.Nodup, List.pairwise_map]
  exact h.1.imp fun {a b} hab e => by rw [e] at hab; exact names_irrefl _ hab

theorem getLast_take {α : Type} {l : List α} {i : Nat} (h : i + 1 ≤ l.length) : (l.take (i + 1)).getLast? = l[i]? := by
  have hi : i < l.length := by omega
  rw [List.take_succ_eq_append_getElem hi, List.getLast?_concat, List.getElem?_eq_getElem hi]

def dofQ (s : Store) (l : List Entry) (r : V) (s' : Store) : Prop :=
  if dOk [] l = true then ∃ m d, s m = none ∧ s d = none ∧ d ≠ m ∧ r = .tup [.ptr d 0, .int .i64 0] ∧ s' = (s.upd m (.map (dmap l))).upd d (.cells [.map m]) ∧ DRise l
  else r = .tup [.nilp, .int .i64 1] ∧ s' = s

theorem ac_dof (hf : Fwd.on = false) (l : List Entry) (k : Cap) (s : Store) (hl : l.length ≤ 4294967295) (hp : ∀ e ∈ l, e.path.length ≤ 4294967296) : AC Tryz.prog n_dof [.sl (l.map Entry.enc) k] s (dofQ s l) := by
  refine AC_of_tfun (H := h_dof) (S := s_dof) (K := fun r s' => ∃ s2, s2.le s' ∧ dofQ s l r s2) mixed fn_dof ca_dof ok_dof ?_ fun r s' ⟨s2, h1, h2⟩ => ⟨r, s2, .refl _, h1, h2⟩
  rw [e_dof]
  refine AC.mono (ac_dnew s) ?_
  rintro _ _ ⟨m, d, hm, hd, hdm, rfl, rfl⟩
  refine ⟨d, rfl, ?_⟩
  have hlems : s.le ((s.upd m (.map [])).upd d (.cells [.map m])) := (le_upd hm).trans (le_upd (by rw [upd_ne hdm]; exact hd))
  have bad : ∀ {s1 : Store}, s.le s1 → dOk [] l = false → ∃ s2, s2.le s1 ∧ dofQ s l (.tup [.nilp, .int .i64 1]) s2 := fun h h' => ⟨s, h, by unfold dofQ; rw [if_neg (by simp [h'])]; exact ⟨rfl, rfl⟩⟩
  have stle : ∀ D : Dir, s.le ((s.upd m (.map (dmap D))).upd d (.cells [.map m])) := fun D => (le_upd hm).trans (le_upd (by rw [upd_ne hdm]; exact hd))
  refine lfp_up l.length (fun i vs s' => vs = [.int .i64 i] ∧ (s.upd m (.map (dmap (l.take i)))).upd d (.cells [.map m]) = s' ∧ dOk [] l = dOk (l.take i) (l.drop i) ∧ DRise (l.take i)) ?_ ⟨rfl, rfl, rfl, by simp [DRise]⟩
  rintro i _ _ hi ⟨rfl, rfl, hok, hri⟩ X hX
  refine ⟨i, rfl, ?_⟩
  have hh : HasDir ((s.upd m (.map (dmap (l.take i)))).upd d (.cells [.map m])) d m (l.take i) := ⟨by simp [Store.upd], by simp [Store.upd, Ne.symm hdm]⟩
  have hle := stle (l.take i)
  simp only [List.length_map]
  refine cond_of (fun h1 => ?_) (fun h1 => ?_)
  · have hlt : i < l.length := by simpa using h1
    have hdr : l.drop i = l[i] :: l.drop (i + 1) := List.drop_eq_getElem_cons hlt
    have htk : l.take (i + 1) = l.take i ++ [l[i]] := List.take_succ_eq_append_getElem hlt
    have hok' : dOk [] l = (entOk (l.take i) l[i] && dOk (l.take (i + 1)) (l.drop (i + 1))) := by rw [hok, hdr, htk]; rfl
    have g1 : (l.map Entry.enc)[(i : Int).toNat]? = some (Entry.enc l[i]) := by simp [hlt]
    have hpl := hp l[i] (List.getElem_mem _)
    refine ⟨by omega, _, g1, _, _, _, rfl, ?_⟩
    refine (ac_depth l[i].path _ hpl).use ⟨.refl _, _, rfl, ?_⟩
    have no : entOk (l.take i) l[i] = false → ∃ s2 : Store, s2.le ((s.upd m (.map (dmap (l.take i)))).upd d (.cells [.map m])) ∧ dofQ s l (.tup [.nilp, .int .i64 1]) s2 := fun h => bad hle (by rw [hok', h]; rfl)
    refine cond_of (fun h2 => ?_) (fun h2 => ?_)
    rotate_left
    · refine no ?_
      unfold entOk
      have : ¬ 1 ≤ depthP l[i].path := by simp at h2; omega
      simp [this]
    refine cond_of (fun h3 => ?_) (fun h3 => ?_)
    rotate_left
    · refine no ?_
      unfold entOk
      have : ¬ l[i].value.length ≤ 64 := by rw [bs_size] at h3; simp at h3; omega
      simp [this]
    refine cond_of (fun h4 => ?_) (fun h4 => ?_)
    rotate_left
    · refine no ?_
      unfold entOk
      have : ¬ 1 ≤ l[i].version := by simp at h4; omega
      simp [this]
    have c1 : 1 ≤ depthP l[i].path := by simp at h2; omega
    have c2 : l[i].value.length ≤ 64 := by rw [bs_size] at h3; simp at h3; omega
    have c3 : 1 ≤ l[i].version := by simp at h4; omega
    -- the last test, and the entry laid
    have fin : lastLess (l.take i) l[i].path = true →
        AC Tryz.prog n_parent [V.str (bs l[i].path)] ((s.upd m (.map (dmap (l.take i)))).upd d (.cells [.map m])) fun v33 s34 => ((s.upd m (.map (dmap (l.take i)))).upd d (.cells [.map m])).le s34 ∧ ∃ t35, v33 = V.str t35 ∧ AC Tryz.prog n_there [V.ptr d 0, V.str t35] s34 fun v36 s37 => s34.le s37 ∧ ∃ b38, v36 = V.bool b38 ∧
          bif !b38 then (∃ s2 : Store, s2.le s37 ∧ dofQ s l (V.tup [V.nilp, V.int IntKind.i64 1]) s2) else ∃ o39 l40 v41, s37 d = some o39 ∧ objCells o39 = some l40 ∧ rd TK.sc l40 0 = some v41 ∧ ∃ i42, v41 = V.map i42 ∧ ∃ l43, s37 i42 = some (Obj.map l43) ∧ (∀ (x44 : V × V), x44 ∈ l43 → hasKK (KK.one SK.str) x44.fst = true) ∧
            X [V.int IntKind.i64 (IntKind.i64.wrap ((i : Int) + 1))] (s37.upd i42 (Obj.map (mput l43 (V.str (bs l[i].path)) (V.agg [V.str (bs l[i].value), V.int IntKind.i64 l[i].version])))) := by
      intro hlast
      refine (ac_parent hf l[i].path _ hpl).use ⟨.refl _, _, rfl, (ac_there hh _).use ⟨.refl _, _, rfl, ?_⟩⟩
      refine cond_of (fun h5 => ?_) (fun h5 => ?_)
      · have h5' : dthere (l.take i) (parentP l[i].path) = false := by simpa using h5
        exact no (by unfold entOk; simp [h5'])
      · have h5' : dthere (l.take i) (parentP l[i].path) = true := by simpa using h5
        have hent : entOk (l.take i) l[i] = true := by
          unfold entOk
          rw [hlast, h5']
          simp [c1, c2, c3]
        have hrise := hri.snoc hent
        refine ⟨_, _, _, hh.ptr, rfl, rfl, _, rfl, _, hh.map, dmap_keys _, ?_⟩
        rw [wrap_small (by omega), mput_dmap, dput_new hrise.new, ← htk]
        refine hX hlt _ _ ⟨by simp, ?_, by rw [hok', hent, Bool.true_and], by rw [htk]; exact hrise⟩
        funext j
        simp only [Store.upd]
        by_cases hj : j = m
        · subst hj; simp [Ne.symm hdm]
        · simp [hj]
    refine cond_of (fun h5 => ?_) (fun h5 => ?_)
    · have hi0 : 0 < i := by simpa using h5
      have e1 : IntKind.i64.wrap ((i : Int) - 1) = ((i - 1 : Nat) : Int) := by rw [wrap_small (by omega)]; omega
      rw [e1]
      have hlt' : i - 1 < l.length := by omega
      have g2 : (l.map Entry.enc)[(((i - 1 : Nat) : Int)).toNat]? = some (Entry.enc l[i - 1]) := by simp [hlt']
      have hpl' := hp l[i - 1] (List.getElem_mem _)
      have hgl : (l.take i).getLast? = some l[i - 1] := by
        have := getLast_take (l := l) (i := i - 1) (by omega)
        rw [show i - 1 + 1 = i by omega] at this
        rw [this, List.getElem?_eq_getElem hlt']
      refine ⟨by omega, _, g2, _, _, _, rfl, ?_⟩
      refine (ac_less l[i - 1].path l[i].path _ hpl' hpl).use ⟨.refl _, _, rfl, ?_⟩
      refine cond_of (fun h6 => ?_) (fun h6 => ?_)
      · exact fin (by unfold lastLess; rw [hgl]; simpa using h6)
      · refine no ?_
        unfold entOk lastLess
        rw [hgl]
        simp at h6
        simp [h6]
    · have hi0 : i = 0 := by simp at h5; omega
      refine fin ?_
      subst hi0
      rfl
  · have : i = l.length := by simp at h1; omega
    subst this
    have hok1 : dOk [] l = true := by rw [hok]; simp [dOk]
    rw [List.take_length] at *
    refine ⟨_, .refl _, ?_⟩
    unfold dofQ
    rw [if_pos hok1]
    exact ⟨m, d, hm, hd, hdm, rfl, rfl, hri⟩

/-- sessions that were found right so far -/
def SRise (S : Lasts) : Prop := S.Pairwise (fun a b => a.client < b.client) ∧ ∀ e ∈ S, 0 ≤ e.client ∧ e.client ≤ 1099511627776 ∧ 1 ≤ e.seq ∧ e.seq ≤ 1099511627776
theorem ses_ok (e : Sess) : (Cmd.mk e.client e.seq 0 [] [] 0 0 0).ok = true ↔ 0 ≤ e.client ∧ e.client ≤ 1099511627776 ∧ 1 ≤ e.seq ∧ e.seq ≤ 1099511627776 := by
  simp [Cmd.ok]
theorem SRise.snoc {D : Lasts} {e : Sess} (h : SRise D) (he : sesOk D e = true) : SRise (D ++ [e]) := by
  unfold sesOk at he
  simp only [Bool.and_eq_true] at he
  obtain ⟨h1, h4⟩ := he
  have hv := (ses_ok e).1 h1
  refine ⟨?_, fun x hx => ?_⟩
  · rw [List.pairwise_append]
    refine ⟨h.1, by simp, fun a ha b hb => ?_⟩
    rw [List.mem_singleton] at hb
    subst hb
    unfold lastLt at h4
    cases hl : D.getLast? with
    | none => rw [List.getLast?_eq_none_iff] at hl; subst hl; simp at ha
    | some x =>
      rw [hl] at h4
      simp only [Option.map_some, Option.getD_some, decide_eq_true_eq] at h4
      obtain ⟨t, ht⟩ := List.getLast?_eq_some_iff.1 hl
      rw [ht] at ha
      rcases List.mem_append.1 ha with ha | ha
      · have h5 := h.1
        rw [ht, List.pairwise_append] at h5
        have := h5.2.2 a ha x (by simp)
        omega
      · rw [List.mem_singleton] at ha; subst ha; exact h4
  · rcases List.mem_append.1 hx with hx | hx
    · exact h.2 x hx
    · rw [List.mem_singleton] at hx; subst hx; exact hv
theorem SRise.new {D : Lasts} {e : Sess} (h : SRise (D ++ [e])) : ∀ x ∈ D, e.client ≠ x.client := by
  intro x hx heq
  have := (List.pairwise_append.1 h.1).2.2 x hx e (by simp)
  omega
theorem SRise.nodup {D : Lasts} (h : SRise D) : (D.map (·.client)).Nodup := by
  rw [List.Nodup, List.pairwise_map]
  exact h.1.imp fun {a b} hab e => by omega

def sofQ (s : Store) (l : List Entry) (S : List Sess) (r : V) (s' : Store) : Prop :=
  if dOk [] l = true ∧ sOk [] S = true then ∃ p d m q, r = .tup [.ptr p 0, .int .i64 0] ∧ s.le s' ∧ HasMach s' p d m q ⟨l, S⟩ ∧ s p = none ∧ s d = none ∧ s m = none ∧ s q = none ∧ DRise l ∧ SRise S
  else r = .tup [.nilp, .int .i64 1] ∧ s' = s

theorem ac_sof (hf : Fwd.on = false) (l : List Entry) (k : Cap) (S : List Sess) (k2 : Cap) (s : Store) (hl : l.length ≤ 4294967295) (hp : ∀ e ∈ l, e.path.length ≤ 4294967296) (hS : S.length ≤ 4294967295) (hn : ∀ e ∈ S, e.reply.names.length ≤ 4294967296) :
    AC Tryz.prog n_sof [.sl (l.map Entry.enc) k, .sl (S.map Sess.enc) k2] s (sofQ s l S) := by
  refine AC_of_tfun (H := h_sof) (S := s_sof) (K := fun r s' => ∃ s2, s2.le s' ∧ sofQ s l S r s2) mixed fn_sof ca_sof ok_sof ?_ fun r s' ⟨s2, h1, h2⟩ => ⟨r, s2, .refl _, h1, h2⟩
  rw [e_sof]
  refine AC.mono (ac_dof hf l k s hl hp) ?_
  intro r s1 hd
  unfold dofQ at hd
  by_cases hdo : dOk [] l = true
  rotate_left
  · rw [if_neg hdo] at hd
    obtain ⟨rfl, rfl⟩ := hd
    refine ⟨_, _, rfl, ?_⟩
    exact ⟨s1, .refl _, by unfold sofQ; rw [if_neg (fun h => hdo h.1)]; exact ⟨rfl, rfl⟩⟩
  rw [if_pos hdo] at hd
  obtain ⟨m, d, hm, hd, hdm, rfl, hs1, hrise⟩ := hd
  refine ⟨_, _, rfl, fun q hq => ?_⟩
  refine tif_mk rfl (tif_mk rfl fun p hpn => ?_)
  have hsd : s1 d = some (.cells [.map m]) := by rw [hs1]; simp [Store.upd]
  have hsm : s1 m = some (.map (dmap l)) := by rw [hs1]; simp [Store.upd, Ne.symm hdm]
  have hle1 : s.le s1 := by rw [hs1]; exact (le_upd hm).trans (le_upd (by rw [upd_ne hdm]; exact hd))
  have hqp : p ≠ q := fun e => by subst e; simp [Store.upd] at hpn
  have hps1 : s1 p = none := by simpa [Store.upd, hqp] using hpn
  have fr : ∀ i, s1 i = none → s i = none := fun i hi => by
    cases hs : s i with
    | none => rfl
    | some o => rw [hle1 i o hs] at hi; cases hi
  have hqd : q ≠ d := fun e => by subst e; rw [hsd] at hq; cases hq
  have hqm : q ≠ m := fun e => by subst e; rw [hsm] at hq; cases hq
  have hpd : p ≠ d := fun e => by subst e; rw [hsd] at hps1; cases hps1
  have hpm : p ≠ m := fun e => by subst e; rw [hsm] at hps1; cases hps1
  let st : Lasts → Store := fun D => (s1.upd q (.map (smap D))).upd p (.cells [.ptr d 0, .map q])
  have stm : ∀ D, HasMach (st D) p d m q ⟨l, D⟩ := fun D => ⟨by simp [st, Store.upd], ⟨by simp [st, Store.upd, Ne.symm hpd, Ne.symm hqd, hsd], by simp [st, Store.upd, Ne.symm hpm, Ne.symm hqm, hsm]⟩, by simp [st, Store.upd, Ne.symm hqp], Ne.symm hqm⟩
  have stle : ∀ D, s.le (st D) := fun D => hle1.trans ((le_upd hq).trans (le_upd (by rw [upd_ne hqp]; exact hps1)))
  have bad : ∀ D, sOk [] S = false → ∃ s2, s2.le (st D) ∧ sofQ s l S (.tup [.nilp, .int .i64 1]) s2 := fun D h' => ⟨s, stle D, by unfold sofQ; rw [if_neg (fun h => by rw [h'] at h; cases h.2)]; exact ⟨rfl, rfl⟩⟩
  refine lfp_up S.length (fun i vs s' => vs = [.int .i64 i] ∧ st (S.take i) = s' ∧ sOk [] S = sOk (S.take i) (S.drop i) ∧ SRise (S.take i)) ?_ ⟨rfl, rfl, rfl, by simp [SRise]⟩
  rintro i _ _ hi ⟨rfl, rfl, hok, hri⟩ X hX
  refine ⟨i, rfl, ?_⟩
  have hh := stm (S.take i)
  simp only [List.length_map]
  refine cond_of (fun h1 => ?_) (fun h1 => ?_)
  · have hlt : i < S.length := by simpa using h1
    have hdr : S.drop i = S[i] :: S.drop (i + 1) := List.drop_eq_getElem_cons hlt
    have htk : S.take (i + 1) = S.take i ++ [S[i]] := List.take_succ_eq_append_getElem hlt
    have hok' : sOk [] S = (sesOk (S.take i) S[i] && sOk (S.take (i + 1)) (S.drop (i + 1))) := by rw [hok, hdr, htk]; rfl
    have g1 : (S.map Sess.enc)[(i : Int).toNat]? = some (Sess.enc S[i]) := by simp [hlt]
    have hnl := hn S[i] (List.getElem_mem _)
    have no : sesOk (S.take i) S[i] = false → ∃ s2 : Store, s2.le (st (S.take i)) ∧ sofQ s l S (.tup [.nilp, .int .i64 1]) s2 := fun h => bad _ (by rw [hok', h]; rfl)
    refine ⟨by omega, _, g1, _, _, _, _, _, _, _, rfl, ?_⟩
    refine (ac_valid (Cmd.mk S[i].client S[i].seq 0 [] [] 0 0 0) _).use ⟨.refl _, _, rfl, ?_⟩
    have fin : (Cmd.mk S[i].client S[i].seq 0 [] [] 0 0 0).ok = true → lastLt (S.take i) S[i].client = true →
        ∃ o29 l30 v31, (st (S.take i)) p = some o29 ∧ objCells o29 = some l30 ∧ rd TK.sc l30 1 = some v31 ∧ ∃ i32, v31 = V.map i32 ∧ AC Tryz.prog n_own [S[i].reply.enc .any] (st (S.take i)) fun v33 s34 => (st (S.take i)).le s34 ∧ ∃ n35 t36 n37 l38 c39, v33 = V.agg [V.int IntKind.i64 n35, V.str t36, V.int IntKind.i64 n37, V.sl l38 c39] ∧
          ∃ l40, s34 i32 = some (Obj.map l40) ∧ (∀ (x41 : V × V), x41 ∈ l40 → hasKK (KK.one (SK.int IntKind.i64)) x41.fst = true) ∧ X [V.int IntKind.i64 (IntKind.i64.wrap ((i : Int) + 1))] (s34.upd i32 (Obj.map (mput l40 (V.int IntKind.i64 S[i].client) (V.agg [V.int IntKind.i64 S[i].seq, V.int IntKind.i64 n35, V.str t36, V.int IntKind.i64 n37, V.sl l38 c39])))) := by
      intro hv hlast
      have hent : sesOk (S.take i) S[i] = true := by unfold sesOk; rw [hlast, hv]; rfl
      have hrise2 := hri.snoc hent
      refine ⟨_, _, _, hh.ptr, rfl, rfl, _, rfl, ?_⟩
      refine (ac_own S[i].reply .any _ hnl).use ⟨.refl _, _, _, _, _, _, rfl, _, hh.lasts, smap_keys _, ?_⟩
      rw [wrap_small (by omega), mput_smap, sput_new hrise2.new, ← htk]
      refine hX hlt _ _ ⟨by simp, ?_, by rw [hok', hent, Bool.true_and], by rw [htk]; exact hrise2⟩
      funext j
      simp only [st, Store.upd]
      by_cases hj : j = q
      · subst hj; simp [Ne.symm hqp]
      · simp [hj]
    refine cond_of (fun h2 => ?_) (fun h2 => ?_)
    rotate_left
    · refine no ?_
      unfold sesOk
      have : (Cmd.mk S[i].client S[i].seq 0 [] [] 0 0 0).ok = false := by simpa using h2
      rw [this]; rfl
    have hv : (Cmd.mk S[i].client S[i].seq 0 [] [] 0 0 0).ok = true := by simpa using h2
    refine cond_of (fun h5 => ?_) (fun h5 => ?_)
    · have hi0 : 0 < i := by simpa using h5
      have e1 : IntKind.i64.wrap ((i : Int) - 1) = ((i - 1 : Nat) : Int) := by rw [wrap_small (by omega)]; omega
      rw [e1]
      have hlt' : i - 1 < S.length := by omega
      have g2 : (S.map Sess.enc)[(((i - 1 : Nat) : Int)).toNat]? = some (Sess.enc S[i - 1]) := by simp [hlt']
      have hgl : (S.take i).getLast? = some S[i - 1] := by
        have := getLast_take (l := S) (i := i - 1) (by omega)
        rw [show i - 1 + 1 = i by omega] at this
        rw [this, List.getElem?_eq_getElem hlt']
      refine ⟨by omega, _, g2, _, _, _, _, _, _, _, rfl, ?_⟩
      refine cond_of (fun h6 => ?_) (fun h6 => ?_)
      · refine no ?_
        unfold sesOk lastLt
        rw [hgl]
        simp at h6
        simp
        omega
      · exact fin hv (by unfold lastLt; rw [hgl]; simp at h6 ⊢; omega)
    · have hi0 : i = 0 := by simp at h5; omega
      refine fin hv ?_
      subst hi0
      rfl
  · have : i = S.length := by simp at h1; omega
    subst this
    have hok1 : sOk [] S = true := by rw [hok]; simp [sOk]
    rw [List.take_length] at *
    refine ⟨_, .refl _, ?_⟩
    unfold sofQ
    rw [if_pos ⟨hdo, hok1⟩]
    exact ⟨p, d, m, q, rfl, stle S, stm S, fr p hps1, hd, hm, fr q hq, hrise, hri⟩

end Go.Proofs.YtdeondiigpidnaaGreat.Ab
end

section
set_option linter.unusedVariables false
set_option linter.unusedSimpArgs false
/- Machines that are alike go on alike; what a machine has makes it again; the laws of a machine, in plain Lean. -/
namespace Go.Proofs.YtdeondiigpidnaaGreat.Ab
open Go
set_option linter.unusedVariables false
set_option linter.unusedSimpArgs false

theorem dnames_eq {L L' : Dir} (h : L.Perm L') (p : Bytes) : dnames L p = dnames L' p :=
  letI : Fwd := ⟨false⟩
  dnames_perm (p := p) (L := L') (l := below p L) (below_perm h)
theorem there_eq {L L' : Dir} (h : DEq L L') (p : Bytes) : dthere L p = dthere L' p := by unfold dthere; rw [h p]
theorem dval_eq {L L' : Dir} (h : DEq L L') (p : Bytes) : dval L p = dval L' p := by unfold dval; rw [h p]
theorem dver_eq {L L' : Dir} (h : DEq L L') (p : Bytes) : dver L p = dver L' p := by unfold dver; rw [h p]
theorem DEq.put {L L' : Dir} (h : DEq L L') (e : Entry) : DEq (dput L e) (dput L' e) := fun p => by rw [find_put, find_put, h p]
theorem DEq.del {L L' : Dir} (h : DEq L L') (hn : (L.map (·.path)).Nodup) (hn' : (L'.map (·.path)).Nodup) (q : Bytes) : DEq (ddel L q) (ddel L' q) := fun p => by rw [find_del q p hn, find_del q p hn', h p]
theorem SEq.put {L L' : Lasts} (h : SEq L L') (e : Sess) : SEq (sput L e) (sput L' e) := fun p => by rw [sfind_put, sfind_put, h p]
theorem sseq_eq {L L' : Lasts} (h : SEq L L') (p : Int) : sseq L p = sseq L' p := by unfold sseq; rw [h p]
theorem srep_eq {L L' : Lasts} (h : SEq L L') (p : Int) : srep L p = srep L' p := by unfold srep; rw [h p]

theorem dApply_eq {L L' : Dir} (h : DEq L L') (hn : (L.map (·.path)).Nodup) (hn' : (L'.map (·.path)).Nodup) (c : Cmd) : DEq (dApply L c).1 (dApply L' c).1 ∧ (dApply L c).2 = (dApply L' c).2 := by
  have hp := h.perm hn hn'
  unfold dApply dcreate dremove dset dget dlist dcas dset
  simp only [there_eq h, dval_eq h, dver_eq h, dnames_eq hp]
  repeat' split
  all_goals first
    | exact ⟨h, rfl⟩
    | exact ⟨h.put _, rfl⟩
    | exact ⟨h.del hn hn' _, rfl⟩
theorem mApply_eq {n n' : Nat} {M M' : Mach} (h : MEq M M') (hM : MInv n M) (hM' : MInv n' M') (c : Cmd) (r : Reply) : MEq (mApply M c r).1 (mApply M' c r).1 ∧ (mApply M c r).2 = (mApply M' c r).2 := by
  have hd := dApply_eq h.dir hM.dir.nodup hM'.dir.nodup c
  unfold mApply
  simp only [sseq_eq h.lasts, srep_eq h.lasts]
  split
  · exact ⟨h, rfl⟩
  split
  · exact ⟨h, rfl⟩
  split
  · exact ⟨h, rfl⟩
  split
  · exact ⟨h, rfl⟩
  split
  · exact ⟨⟨h.dir, h.lasts.put _⟩, rfl⟩
  · exact ⟨⟨hd.1, by rw [hd.2]; exact h.lasts.put _⟩, hd.2⟩

/-! what a machine has makes it again -/
def snap (M : Mach) : Mach := ⟨dsorted M.dir, ssorted M.lasts⟩
theorem DInv.perm {n : Nat} {L L' : Dir} (h : DInv n L) (hp : L'.Perm L) : DInv n L' where
  nodup := (hp.map _).nodup_iff.2 h.nodup
  valid := fun e he => h.valid e (hp.mem_iff.1 he)
  root := fun e he => h.root e (hp.mem_iff.1 he)
  value := fun e he => h.value e (hp.mem_iff.1 he)
  ver := fun e he => h.ver e (hp.mem_iff.1 he)
  up := fun e he => by
    rcases there_iff.1 (h.up e (hp.mem_iff.1 he)) with h1 | ⟨x, h1, h2⟩
    · exact there_iff.2 (.inl h1)
    · exact there_iff.2 (.inr ⟨x, hp.mem_iff.2 h1, h2⟩)
  len := by rw [hp.length_eq]; exact h.len
theorem MInv.snap {n : Nat} {M : Mach} (h : MInv n M) : MInv n (snap M) where
  dir := h.dir.perm (dsorted_perm _)
  nodup := ((ssorted_perm _).map _).nodup_iff.2 h.nodup
  range := fun e he => h.range e ((ssorted_perm _).mem_iff.1 he)
  names := fun e he => h.names e ((ssorted_perm _).mem_iff.1 he)
  len := by show (ssorted M.lasts).length ≤ n; rw [(ssorted_perm _).length_eq]; exact h.len
theorem snap_eq {n : Nat} {M : Mach} (h : MInv n M) : MEq (snap M) M :=
  ⟨.of_perm (dsorted_perm _) h.snap.dir.nodup h.dir.nodup, .of_perm (ssorted_perm _) h.snap.nodup h.nodup⟩
theorem same_of_eq {n n' : Nat} {M N : Mach} (h : MEq M N) (hM : MInv n M) (hN : MInv n' N) : M.same N = true := by
  unfold Mach.same
  rw [dsorted_eq h.dir hN.dir.valid hM.dir.nodup hN.dir.nodup, ssorted_eq h.lasts hM.nodup hN.nodup]
  simp

theorem names_root {p : Bytes} (hv : validP p = true) (h : namesP p = []) : p = [47] := by
  unfold validP at hv
  unfold namesP at h
  cases hs : splitP p with
  | none => rw [hs] at hv; cases hv
  | some l =>
    rw [hs] at h
    simp at h
    subst h
    have := (split_inv hs).2
    simpa [pathOf] using this
theorem names_parent {p : Bytes} : namesP (parentP p) = (namesP p).dropLast := by
  unfold parentP
  split
  · rename_i h; rw [h]; decide
  · have h1 := ok_take (n := (namesP p).length - 1) (names_ok p)
    rw [← List.dropLast_eq_take] at h1
    show (splitP _).getD [] = _
    rw [split_path h1]; rfl
theorem dropLast_lt : ∀ {l : List Bytes}, l ≠ [] → l.dropLast < l
  | [], h => absurd rfl h
  | [x], _ => List.Lex.nil
  | x :: y :: r, _ => List.Lex.cons (dropLast_lt (l := y :: r) (by simp))
theorem depth_pos {p : Bytes} (hv : validP p = true) (h : p ≠ [47]) : 1 ≤ depthP p := by
  have h1 : namesP p ≠ [] := fun e => h (names_root hv e)
  unfold validP at hv
  unfold depthP
  unfold namesP at h1
  cases hs : splitP p with
  | none => rw [hs] at hv; cases hv
  | some l =>
    rw [hs] at h1
    simp at h1
    have : 0 < l.length := List.length_pos_iff.2 h1
    simp only
    omega

theorem dsorted_rise {n : Nat} {L : Dir} (h : DInv n L) : (dsorted L).Pairwise fun a b => namesP a.path < namesP b.path := by
  have hi := h.perm (dsorted_perm L)
  have h1 : (dsorted L).Pairwise fun a b => entLe a b = true := List.pairwise_mergeSort entLe_tr entLe_tot L
  have h2 : (dsorted L).Pairwise fun a b => a.path ≠ b.path := by
    have := hi.nodup
    rw [List.Nodup, List.pairwise_map] at this
    exact this
  refine (h1.and h2).imp_of_mem ?_
  intro a b ha hb ⟨h3, h4⟩
  simp only [entLe, Bool.not_eq_true', decide_eq_false_iff_not] at h3
  rcases names_total (namesP a.path) (namesP b.path) with h5 | h5 | h5
  · exact h5
  · exact absurd (names_inj (hi.valid a ha) (hi.valid b hb) h5) h4
  · exact absurd h5 h3
theorem dOk_of {n : Nat} {E : Dir} (h : DInv n E) (hs : E.Pairwise fun a b => namesP a.path < namesP b.path) : ∀ (R D : Dir), D ++ R = E → dOk D R = true
  | [], D, _ => rfl
  | e :: R, D, he => by
    have ih := dOk_of h hs R (D ++ [e]) (by simpa using he)
    unfold dOk
    rw [ih, Bool.and_true]
    have hm : e ∈ E := by rw [← he]; simp
    rw [← he, List.pairwise_append] at hs
    unfold entOk
    simp only [Bool.and_eq_true, decide_eq_true_eq]
    refine ⟨⟨⟨⟨depth_pos (h.valid e hm) (h.root e hm), h.value e hm⟩, (h.ver e hm).1⟩, ?_⟩, ?_⟩
    · unfold lastLess
      cases hl : D.getLast? with
      | none => rfl
      | some x =>
        have hx : x ∈ D := List.mem_of_getLast? hl
        have hxE : x ∈ E := by rw [← he]; simp [hx]
        exact (lessP_iff (h.valid x hxE) (h.valid e hm)).2 (hs.2.2 x hx e (by simp))
    · rcases there_iff.1 (h.up e hm) with h1 | ⟨x, h1, h2⟩
      · exact there_iff.2 (.inl h1)
      · refine there_iff.2 (.inr ⟨x, ?_, h2⟩)
        have hne : namesP e.path ≠ [] := fun e' => h.root e hm (names_root (h.valid e hm) e')
        have hlt : namesP x.path < namesP e.path := by rw [h2, names_parent]; exact dropLast_lt hne
        rw [← he] at h1
        rcases List.mem_append.1 h1 with h1 | h1
        · exact h1
        · exfalso
          rcases List.mem_cons.1 h1 with rfl | h1
          · exact names_irrefl _ hlt
          · exact names_irrefl _ (names_trans hlt ((List.pairwise_cons.1 hs.2.1).1 x h1))
theorem dOk_sorted {n : Nat} {L : Dir} (h : DInv n L) : dOk [] (dsorted L) = true := dOk_of (h.perm (dsorted_perm L)) (dsorted_rise h) _ [] rfl
theorem sOk_of {E : Lasts} (hr : ∀ e ∈ E, 0 ≤ e.client ∧ e.client ≤ 1099511627776 ∧ 1 ≤ e.seq ∧ e.seq ≤ 1099511627776) (hs : E.Pairwise fun a b => a.client < b.client) : ∀ (R D : Lasts), D ++ R = E → sOk D R = true
  | [], D, _ => rfl
  | e :: R, D, he => by
    have ih := sOk_of hr hs R (D ++ [e]) (by simpa using he)
    unfold sOk
    rw [ih, Bool.and_true]
    have hm : e ∈ E := by rw [← he]; simp
    rw [← he, List.pairwise_append] at hs
    unfold sesOk
    rw [Bool.and_eq_true]
    refine ⟨letI : Fwd := ⟨false⟩; (ses_ok e).2 (hr e hm), ?_⟩
    unfold lastLt
    cases hl : D.getLast? with
    | none => rfl
    | some x => simpa using hs.2.2 x (List.mem_of_getLast? hl) e (by simp)
theorem sOk_sorted {n : Nat} {M : Mach} (h : MInv n M) : sOk [] (ssorted M.lasts) = true := by
  refine sOk_of h.snap.range ?_ _ [] rfl
  have h1 : (ssorted M.lasts).Pairwise fun a b => sesLe a b = true := List.pairwise_mergeSort sesLe_tr sesLe_tot _
  have h2 := h.snap.nodup
  rw [List.Nodup, List.pairwise_map] at h2
  refine (h1.and h2).imp ?_
  intro a b ⟨h3, h4⟩
  simp only [sesLe, decide_eq_true_eq] at h3
  simp only [ne_eq] at h4
  omega

/-! which number a client is at -/
def counts (c : Cmd) (x : Int) : Bool := c.op != 0 && (c.ok && c.client == x)
def lastOf (x : Int) (l : List Cmd) (n : Int) : Int := l.foldl (fun a c => if counts c x = true then max a c.seq else a) n
theorem sseq_put (S : Lasts) (e : Sess) (x : Int) : sseq (sput S e) x = if x = e.client then e.seq else sseq S x := by
  unfold sseq
  rw [sfind_put]
  split <;> rfl
theorem srep_put (S : Lasts) (e : Sess) (x : Int) : srep (sput S e) x = if x = e.client then e.reply else srep S x := by
  unfold srep
  rw [sfind_put]
  split <;> rfl
theorem mApply_seq (M : Mach) (c : Cmd) (r : Reply) (x : Int) : sseq (mApply M c r).1.lasts x = if counts c x = true then max (sseq M.lasts x) c.seq else sseq M.lasts x := by
  unfold mApply counts
  by_cases h0 : c.op = 0
  · simp [h0]
  by_cases h1 : c.ok = false
  · simp [h0, h1]
  have h1' : c.ok = true := by simpa using h1
  by_cases h2 : c.seq < sseq M.lasts c.client
  · simp only [h0, h1, h2, h1', if_false, if_true, Bool.false_eq_true]
    by_cases hx : c.client = x
    · subst hx; simp [h0]; omega
    · simp [hx]
  by_cases h3 : sseq M.lasts c.client = c.seq
  · simp only [h0, h1, h2, h3, h1', if_false, if_true, Bool.false_eq_true]
    by_cases hx : c.client = x
    · subst hx; simp [h0, h3]
    · simp [hx]
  · rw [if_neg h0, if_neg h1, if_neg h2, if_neg h3]
    simp only []
    rw [sseq_put, h1']
    by_cases hx : c.client = x
    · subst hx; simp [h0]; omega
    · simp [hx, Ne.symm hx]
theorem mRun_seq (r : Reply) (x : Int) : ∀ (l : List Cmd) (M : Mach), sseq (mRun r M l).lasts x = lastOf x l (sseq M.lasts x)
  | [], M => rfl
  | c :: l, M => by
    simp only [mRun, lastOf, List.foldl_cons]
    rw [mRun_seq r x l, mApply_seq]
    rfl

/-! nobody was answered that he is older and that was kept -/
def NoOld (M : Mach) : Prop := ∀ e ∈ M.lasts, e.reply.err ≠ 6
theorem dApply_err (L : Dir) (c : Cmd) : (dApply L c).2.err ≠ 6 := by
  unfold dApply dcreate dremove dset dget dlist dcas dset rep0
  simp only
  repeat' split
  all_goals (intro h; simp at h)
theorem NoOld.apply {M : Mach} (h : NoOld M) (c : Cmd) (r : Reply) (hr : r.err ≠ 6) : NoOld (mApply M c r).1 := by
  unfold mApply
  split
  · exact h
  split
  · exact h
  split
  · exact h
  split
  · exact h
  intro e he
  rcases mem_sput he with rfl | he
  · simp only
    split
    · exact hr
    · exact dApply_err _ _
  · exact h e he
theorem NoOld.run {r : Reply} (hr : r.err ≠ 6) : ∀ {M : Mach}, NoOld M → ∀ l : List Cmd, NoOld (mRun r M l)
  | M, h, [] => h
  | M, h, c :: l => NoOld.run hr (h.apply c r hr) l
theorem mApply_old {M : Mach} (h : NoOld M) {c : Cmd} {r : Reply} (hr : r.err ≠ 6) (hop : c.op ≠ 0) (hok : c.ok = true) : ((mApply M c r).2.err = 6 ↔ sseq M.lasts c.client > c.seq) := by
  unfold mApply
  rw [if_neg hop, if_neg (by simp [hok])]
  by_cases h2 : c.seq < sseq M.lasts c.client
  · rw [if_pos h2]; exact ⟨fun _ => h2, fun _ => rfl⟩
  rw [if_neg h2]
  refine ⟨fun h3 => ?_, fun h3 => absurd h3 h2⟩
  exfalso
  split at h3
  · rename_i h4
    unfold srep at h3
    cases hf : sfind M.lasts c.client with
    | none => rw [hf] at h3; exact absurd (show (0:Int) = 6 from h3) (by decide)
    | some e => rw [hf] at h3; exact h e (smem_of_find hf).1 h3
  · simp only at h3
    split at h3
    · exact hr h3
    · exact dApply_err _ _ h3
/-- what a look through the sessions finds -/
def foundIn (x : Int) (S : Lasts) (n : Int) : Int := S.foldl (fun a e => if e.client = x then e.seq else a) n
theorem foundIn_none (x : Int) : ∀ (S : Lasts) (n : Int), (∀ e ∈ S, e.client ≠ x) → foundIn x S n = n
  | [], n, _ => rfl
  | e :: S, n, h => by
    unfold foundIn
    rw [List.foldl_cons, if_neg (h e (by simp))]
    exact foundIn_none x S n fun y hy => h y (by simp [hy])
theorem foundIn_eq (x : Int) : ∀ (S : Lasts), (S.map (·.client)).Nodup → foundIn x S 0 = sseq S x
  | [], _ => rfl
  | e :: S, h => by
    simp only [List.map_cons, List.nodup_cons] at h
    by_cases hx : e.client = x
    · unfold foundIn
      rw [List.foldl_cons, if_pos hx]
      have := foundIn_none x S e.seq fun y hy hyx => h.1 (List.mem_map.2 ⟨y, hy, hyx.trans hx.symm⟩)
      unfold foundIn at this
      rw [this]
      unfold sseq sfind
      rw [List.find?_cons]
      simp [hx]
    · unfold foundIn
      rw [List.foldl_cons, if_neg hx]
      have := foundIn_eq x S h.2
      unfold foundIn at this
      rw [this]
      unfold sseq sfind
      rw [List.find?_cons]
      have : (x == e.client) = false := by simpa using fun e' => hx e'.symm
      rw [this]

/-! who is not heard of -/
theorem mApply_find {M : Mach} {c : Cmd} (r : Reply) {x : Int} (h : c.client ≠ x) : sfind (mApply M c r).1.lasts x = sfind M.lasts x := by
  unfold mApply
  split
  · rfl
  split
  · rfl
  split
  · rfl
  split
  · rfl
  simp only
  rw [sfind_put, if_neg fun e => h e.symm]
theorem mRun_find (r : Reply) (x : Int) : ∀ (l : List Cmd) (M : Mach), (∀ c ∈ l, c.client ≠ x) → sfind (mRun r M l).lasts x = sfind M.lasts x
  | [], M, _ => rfl
  | c :: l, M, h => by
    simp only [mRun]
    rw [mRun_find r x l _ fun y hy => h y (by simp [hy]), mApply_find r (h c (by simp))]
theorem sseq_of_find {S S' : Lasts} {x : Int} (h : sfind S x = sfind S' x) : sseq S x = sseq S' x := by unfold sseq; rw [h]
theorem srep_of_find {S S' : Lasts} {x : Int} (h : sfind S x = sfind S' x) : srep S x = srep S' x := by unfold srep; rw [h]

/-! a read -/
def getOf (p : Bytes) : Cmd := ⟨77, 1, 4, p, [], 0, 0, 0⟩
theorem get_new {M : Mach} {p : Bytes} {r : Reply} (h : sfind M.lasts 77 = none) : mApply M (getOf p) r = (⟨M.dir, sput M.lasts ⟨77, 1, (dApply M.dir (getOf p)).2⟩⟩, (dApply M.dir (getOf p)).2) := by
  have h0 : sseq M.lasts 77 = 0 := by unfold sseq; rw [h]; rfl
  have hd : (dApply M.dir (getOf p)).1 = M.dir := by
    unfold dApply dget
    simp only [getOf]
    simp only [show (4:Int) ≠ 1 from by decide, show (4:Int) ≠ 2 from by decide, show (4:Int) ≠ 3 from by decide, if_false, if_true]
    repeat' split
    all_goals rfl
  unfold mApply
  have e1 : (getOf p).op = 4 := rfl
  have e2 : (getOf p).ok = true := rfl
  have e3 : (getOf p).client = 77 := rfl
  have e4 : (getOf p).seq = 1 := rfl
  have e5 : (getOf p).control = false := rfl
  rw [e1, e2, e3, e4, h0, e5]
  simp [hd]
theorem get_is {n : Nat} {L : Dir} (h : DInv n L) {e : Entry} (he : e ∈ L) : (dApply L (getOf e.path)).2 = ⟨0, e.value, e.version, []⟩ := by
  have hf := find_mem h.nodup he
  have hr : (getOf e.path).right = true := by
    unfold Cmd.right getOf
    simp [h.valid e he]
  have ht : dthere L e.path = true := there_iff.2 (.inr ⟨e, he, rfl⟩)
  unfold dApply
  rw [hr]
  have e1 : (getOf e.path).op = 4 := rfl
  have e2 : (getOf e.path).path = e.path := rfl
  rw [e1, e2, ht]
  simp [dget, e2, dval, dver, hf]
theorem get_again {M : Mach} {p : Bytes} {r a : Reply} (h : sfind M.lasts 77 = some ⟨77, 1, a⟩) : (mApply M (getOf p) r).2 = a := by
  have h0 : sseq M.lasts 77 = 1 := by unfold sseq; rw [h]; rfl
  have h1 : srep M.lasts 77 = a := by unfold srep; rw [h]; rfl
  unfold mApply
  have e1 : (getOf p).op = 4 := rfl
  have e2 : (getOf p).ok = true := rfl
  have e3 : (getOf p).client = 77 := rfl
  have e4 : (getOf p).seq = 1 := rfl
  rw [e1, e2, e3, e4, h0, h1]
  simp

theorem mApply_none {M : Mach} {c : Cmd} {r : Reply} (h : c.op = 0 ∨ c.ok = false) : mApply M c r = (M, rep0 (if c.op = 0 then 0 else 1)) := by
  unfold mApply
  by_cases h0 : c.op = 0
  · simp [h0]
  · rcases h with h | h
    · exact absurd h h0
    · simp [h0, h]
theorem same_refl (M : Mach) : M.same M = true := by unfold Mach.same; simp

/-! the document's example -/
def exC : Cmd := ⟨1, 1, 1, [47, 97], [], 0, 0, 0⟩
theorem exC_right : exC.right = true := by decide
theorem exC_parent : parentP [47, 97] = [47] := by decide
theorem ex1 : mApply ⟨[], []⟩ exC (rep0 0) = (⟨[⟨[47, 97], [], 1⟩], [⟨1, 1, ⟨0, [], 1, []⟩⟩]⟩, ⟨0, [], 1, []⟩) := by
  have e5 : exC.control = false := rfl
  have e6 : exC.ok = true := rfl
  have hd : dApply [] exC = ([⟨[47, 97], [], 1⟩], ⟨0, [], 1, []⟩) := by
    unfold dApply
    rw [exC_right]
    decide
  unfold mApply
  rw [hd, e5, e6]
  rfl
theorem ex2 : mApply ⟨[⟨[47, 97], [], 1⟩], [⟨1, 1, ⟨0, [], 1, []⟩⟩]⟩ exC (rep0 0) = (⟨[⟨[47, 97], [], 1⟩], [⟨1, 1, ⟨0, [], 1, []⟩⟩]⟩, ⟨0, [], 1, []⟩) := by
  unfold mApply
  have e6 : exC.ok = true := rfl
  rw [e6]
  rfl

end Go.Proofs.YtdeondiigpidnaaGreat.Ab
end

section
set_option linter.unusedVariables false
set_option linter.unusedSimpArgs false
/- Normal forms of functions, printed by a program of mine; each is checked by the kernel. -/
namespace Go.Proofs.YtdeondiigpidnaaGreat.Ab
open Go Go.Proofs
set_option maxRecDepth 100000
set_option linter.unusedVariables false
set_option linter.unusedSectionVars false
variable [Fwd]
abbrev n_works9 : Go.FuncId := 8
noncomputable def h_works9 : Hints := { n := 74, esc := fun _ => false, lr := fun i => match i with | 3 => [27, 36] | 4 => [31, 41] | _ => [], bx := fun i => mem i [2, 3, 4], lc := fun _ => false, quiet := fun _ => false, order := fun _ => none, join := fun _ => none, carry := fun _ => [] }
noncomputable def s_works9 : Shapes := { carry := fun _ => [], res := fun _ => none }
theorem e_works9  (s : Store) (K : V → Store → Prop) : tfun Tryz.prog h_works9 s_works9 Tryz.f8 [] s K = ( AC Tryz.prog 10 [] s fun v0 s1 => ∃ i2, v0 = V.ptr i2 0 ∧ AC Tryz.prog 11 [V.ptr i2 0, V.agg [V.int IntKind.i64 1, V.int IntKind.i64 1, V.int IntKind.i64 1, V.str (ByteArray.mk #[47, 97]), V.str (ByteArray.mk #[]), V.int IntKind.i64 0, V.int IntKind.i64 0, V.int IntKind.i64 0], V.agg [V.int IntKind.i64 0, V.str (ByteArray.mk #[]), V.int IntKind.i64 0, V.sl [] Cap.full]] s1 fun v3 s4 => ∃ n5 t6 n7 l8 c9, v3 = V.agg [V.int IntKind.i64 n5, V.str t6, V.int IntKind.i64 n7, V.sl l8 c9] ∧ AC Tryz.prog 11 [V.ptr i2 0, V.agg [V.int IntKind.i64 1, V.int IntKind.i64 1, V.int IntKind.i64 1, V.str (ByteArray.mk #[47, 97]), V.str (ByteArray.mk #[]), V.int IntKind.i64 0, V.int IntKind.i64 0, V.int IntKind.i64 0], V.agg [V.int IntKind.i64 0, V.str (ByteArray.mk #[]), V.int IntKind.i64 0, V.sl [] Cap.full]] s4 fun v10 s11 => ∃ n12 t13 n14 l15 c16, v10 = V.agg [V.int IntKind.i64 n12, V.str t13, V.int IntKind.i64 n14, V.sl l15 c16] ∧ AC Tryz.prog 13 [V.ptr i2 0] s11 fun v17 s18 => ∃ l19 c20, v17 = V.sl l19 c20 ∧ AC Tryz.prog 14 [V.ptr i2 0] s18 fun v21 s22 => ∃ l23 c24, v21 = V.sl l23 c24 ∧ AC Tryz.prog 12 [V.sl l19 c20, V.sl l23 c24] s22 fun v25 s26 => ∃ i27 n28, v25 = V.tup [V.ptr i27 0, V.int IntKind.i64 n28] ∧ bif n7 == 1 then bif n14 == 1 then bif n5 == 0 then bif n12 == 0 then AC Tryz.prog 13 [V.ptr i2 0] s26 fun v29 s30 => ∃ l31 c32, v29 = V.sl l31 c32 ∧ bif (↑l31.length : Int) == 1 then AC Tryz.prog 14 [V.ptr i2 0] s30 fun v33 s34 => ∃ l35 c36, v33 = V.sl l35 c36 ∧ bif (↑l35.length : Int) == 1 then bif n28 == 0 then AC Tryz.prog 17 [V.agg [V.int IntKind.i64 1, V.int IntKind.i64 1, V.int IntKind.i64 1, V.str (ByteArray.mk #[47, 97]), V.str (ByteArray.mk #[]), V.int IntKind.i64 0, V.int IntKind.i64 0, V.int IntKind.i64 0]] s34 fun v37 s38 => ∃ b39, v37 = V.bool b39 ∧ bif b39 then AC Tryz.prog 18 [V.ptr i2 0] s38 fun v40 s41 => ∃ i42, v40 = V.ptr i42 0 ∧ K (V.bool true) s41 else K (V.bool false) s38 else K (V.bool false) s34 else K (V.bool false) s34 else K (V.bool false) s30 else K (V.bool false) s26 else K (V.bool false) s26 else K (V.bool false) s26 else K (V.bool false) s26) := by kernel_rfl
theorem ok_works9 : okFn h_works9 Tryz.f8 = true := by kernel_rfl
theorem fn_works9 : Tryz.prog.funcs[8]? = some Tryz.f8 := by kernel_rfl
theorem ca_works9 : callable Tryz.prog 8 = true := by kernel_rfl
abbrev n_lnone : Go.FuncId := 5
noncomputable def h_lnone : Hints := { n := 67, esc := fun _ => false, lr := fun i => match i with | 3 => [22, 52] | 10 => [55] | _ => [], bx := fun i => mem i [3, 9, 10], lc := fun _ => false, quiet := fun _ => false, order := fun _ => none, join := fun _ => none, carry := fun i => match i with | 8 => [7] | _ => [] }
noncomputable def s_lnone : Shapes := { carry := fun i => match i with | 8 => [shA Tryz.prog 3] | _ => [], res := fun _ => none }
theorem e_lnone (l : List Cmd) (k : Cap) (c : Cmd) (s : Store) (K : V → Store → Prop) : tfun Tryz.prog h_lnone s_lnone Tryz.f5 [.sl (l.map Cmd.enc) k, c.enc] s K = ( AC Tryz.prog 8 [] s fun v0 s1 => ∃ b2, v0 = V.bool b2 ∧ bif !b2 then K (V.bool false) s1 else AC Tryz.prog 9 [V.sl (List.map Cmd.enc l) k] s1 fun v3 s4 => ∃ b5, v3 = V.bool b5 ∧ bif !b5 then AC Tryz.prog 9 [V.sl [V.agg [V.int IntKind.i64 c.client, V.int IntKind.i64 c.seq, V.int IntKind.i64 c.op, V.str (bs c.path), V.str (bs c.value), V.int IntKind.i64 c.version, V.int IntKind.i64 c.a, V.int IntKind.i64 c.b]] Cap.full] s4 fun v6 s7 => ∃ b8, v6 = V.bool b8 ∧ bif !b8 then bif c.op != 0 then AC Tryz.prog 17 [V.agg [V.int IntKind.i64 c.client, V.int IntKind.i64 c.seq, V.int IntKind.i64 c.op, V.str (bs c.path), V.str (bs c.value), V.int IntKind.i64 c.version, V.int IntKind.i64 c.a, V.int IntKind.i64 c.b]] s7 fun v9 s10 => ∃ b11, v9 = V.bool b11 ∧ bif b11 then K (V.bool b2) s10 else AC Tryz.prog 10 [] s10 fun v12 s13 => ∃ i14, v12 = V.ptr i14 0 ∧ lfp (fun s15 l16 s17 => ∃ n18, l16 = [V.int IntKind.i64 n18] ∧ bif decide (n18 < (↑(List.map Cmd.enc l).length : Int)) then 0 ≤ n18 ∧ ∃ v19, (List.map Cmd.enc l)[n18.toNat]? = some v19 ∧ ∃ n20 n21 n22 t23 t24 n25 n26 n27, v19 = V.agg [V.int IntKind.i64 n20, V.int IntKind.i64 n21, V.int IntKind.i64 n22, V.str t23, V.str t24, V.int IntKind.i64 n25, V.int IntKind.i64 n26, V.int IntKind.i64 n27] ∧ AC Tryz.prog 11 [V.ptr i14 0, V.agg [V.int IntKind.i64 n20, V.int IntKind.i64 n21, V.int IntKind.i64 n22, V.str t23, V.str t24, V.int IntKind.i64 n25, V.int IntKind.i64 n26, V.int IntKind.i64 n27], V.agg [V.int IntKind.i64 0, V.str (ByteArray.mk #[]), V.int IntKind.i64 0, V.sl [] Cap.full]] s17 fun v28 s29 => ∃ n30 t31 n32 l33 c34, v28 = V.agg [V.int IntKind.i64 n30, V.str t31, V.int IntKind.i64 n32, V.sl l33 c34] ∧ s15 [V.int IntKind.i64 (IntKind.i64.wrap (n18 + 1))] s29 else AC Tryz.prog 18 [V.ptr i14 0] s17 fun v35 s36 => ∃ i37, v35 = V.ptr i37 0 ∧ AC Tryz.prog 11 [V.ptr i14 0, V.agg [V.int IntKind.i64 c.client, V.int IntKind.i64 c.seq, V.int IntKind.i64 c.op, V.str (bs c.path), V.str (bs c.value), V.int IntKind.i64 c.version, V.int IntKind.i64 c.a, V.int IntKind.i64 c.b], V.agg [V.int IntKind.i64 0, V.str (ByteArray.mk #[]), V.int IntKind.i64 7, V.sl [] Cap.full]] s36 fun v38 s39 => ∃ n40 t41 n42 l43 c44, v38 = V.agg [V.int IntKind.i64 n40, V.str t41, V.int IntKind.i64 n42, V.sl l43 c44] ∧ bif c.op != 0 then bif b2 then AC Tryz.prog 16 [V.agg [V.int IntKind.i64 n40, V.str t41, V.int IntKind.i64 n42, V.sl l43 c44], V.agg [V.int IntKind.i64 1, V.str (ByteArray.mk #[]), V.int IntKind.i64 0, V.sl [] Cap.full]] s39 fun v45 s46 => ∃ b47, v45 = V.bool b47 ∧ bif b47 then AC Tryz.prog 15 [V.ptr i14 0, V.ptr i37 0] s46 fun v48 s49 => ∃ b50, v48 = V.bool b50 ∧ K (V.bool b50) s49 else K (V.bool false) s46 else K (V.bool false) s39 else bif b2 then AC Tryz.prog 16 [V.agg [V.int IntKind.i64 n40, V.str t41, V.int IntKind.i64 n42, V.sl l43 c44], V.agg [V.int IntKind.i64 0, V.str (ByteArray.mk #[]), V.int IntKind.i64 0, V.sl [] Cap.full]] s39 fun v51 s52 => ∃ b53, v51 = V.bool b53 ∧ bif b53 then AC Tryz.prog 15 [V.ptr i14 0, V.ptr i37 0] s52 fun v54 s55 => ∃ b56, v54 = V.bool b56 ∧ K (V.bool b56) s55 else K (V.bool false) s52 else K (V.bool false) s39) [V.int IntKind.i64 0] s13 else AC Tryz.prog 10 [] s7 fun v57 s58 => ∃ i59, v57 = V.ptr i59 0 ∧ lfp (fun s60 l61 s62 => ∃ n63, l61 = [V.int IntKind.i64 n63] ∧ bif decide (n63 < (↑(List.map Cmd.enc l).length : Int)) then 0 ≤ n63 ∧ ∃ v64, (List.map Cmd.enc l)[n63.toNat]? = some v64 ∧ ∃ n65 n66 n67 t68 t69 n70 n71 n72, v64 = V.agg [V.int IntKind.i64 n65, V.int IntKind.i64 n66, V.int IntKind.i64 n67, V.str t68, V.str t69, V.int IntKind.i64 n70, V.int IntKind.i64 n71, V.int IntKind.i64 n72] ∧ AC Tryz.prog 11 [V.ptr i59 0, V.agg [V.int IntKind.i64 n65, V.int IntKind.i64 n66, V.int IntKind.i64 n67, V.str t68, V.str t69, V.int IntKind.i64 n70, V.int IntKind.i64 n71, V.int IntKind.i64 n72], V.agg [V.int IntKind.i64 0, V.str (ByteArray.mk #[]), V.int IntKind.i64 0, V.sl [] Cap.full]] s62 fun v73 s74 => ∃ n75 t76 n77 l78 c79, v73 = V.agg [V.int IntKind.i64 n75, V.str t76, V.int IntKind.i64 n77, V.sl l78 c79] ∧ s60 [V.int IntKind.i64 (IntKind.i64.wrap (n63 + 1))] s74 else AC Tryz.prog 18 [V.ptr i59 0] s62 fun v80 s81 => ∃ i82, v80 = V.ptr i82 0 ∧ AC Tryz.prog 11 [V.ptr i59 0, V.agg [V.int IntKind.i64 c.client, V.int IntKind.i64 c.seq, V.int IntKind.i64 c.op, V.str (bs c.path), V.str (bs c.value), V.int IntKind.i64 c.version, V.int IntKind.i64 c.a, V.int IntKind.i64 c.b], V.agg [V.int IntKind.i64 0, V.str (ByteArray.mk #[]), V.int IntKind.i64 7, V.sl [] Cap.full]] s81 fun v83 s84 => ∃ n85 t86 n87 l88 c89, v83 = V.agg [V.int IntKind.i64 n85, V.str t86, V.int IntKind.i64 n87, V.sl l88 c89] ∧ bif c.op != 0 then bif b2 then AC Tryz.prog 16 [V.agg [V.int IntKind.i64 n85, V.str t86, V.int IntKind.i64 n87, V.sl l88 c89], V.agg [V.int IntKind.i64 1, V.str (ByteArray.mk #[]), V.int IntKind.i64 0, V.sl [] Cap.full]] s84 fun v90 s91 => ∃ b92, v90 = V.bool b92 ∧ bif b92 then AC Tryz.prog 15 [V.ptr i59 0, V.ptr i82 0] s91 fun v93 s94 => ∃ b95, v93 = V.bool b95 ∧ K (V.bool b95) s94 else K (V.bool false) s91 else K (V.bool false) s84 else bif b2 then AC Tryz.prog 16 [V.agg [V.int IntKind.i64 n85, V.str t86, V.int IntKind.i64 n87, V.sl l88 c89], V.agg [V.int IntKind.i64 0, V.str (ByteArray.mk #[]), V.int IntKind.i64 0, V.sl [] Cap.full]] s84 fun v96 s97 => ∃ b98, v96 = V.bool b98 ∧ bif b98 then AC Tryz.prog 15 [V.ptr i59 0, V.ptr i82 0] s97 fun v99 s100 => ∃ b101, v99 = V.bool b101 ∧ K (V.bool b101) s100 else K (V.bool false) s97 else K (V.bool false) s84) [V.int IntKind.i64 0] s58 else K (V.bool b2) s7 else K (V.bool b2) s4) := by kernel_rfl
theorem ok_lnone : okFn h_lnone Tryz.f5 = true := by kernel_rfl
theorem fn_lnone : Tryz.prog.funcs[5]? = some Tryz.f5 := by kernel_rfl
theorem ca_lnone : callable Tryz.prog 5 = true := by kernel_rfl
abbrev n_lsnap : Go.FuncId := 3
noncomputable def h_lsnap : Hints := { n := 85, esc := fun _ => false, lr := fun _ => [], bx := fun i => mem i [11, 12], lc := fun _ => false, quiet := fun _ => false, order := fun _ => none, join := fun _ => none, carry := fun i => match i with | 8 => [7] | 15 => [10] | _ => [] }
noncomputable def s_lsnap : Shapes := { carry := fun i => match i with | 8 => [shA Tryz.prog 3] | 15 => [shA Tryz.prog 3] | _ => [], res := fun _ => none }
theorem e_lsnap (l : List Cmd) (k : Cap) (l2 : List Cmd) (k2 : Cap) (s : Store) (K : V → Store → Prop) : tfun Tryz.prog h_lsnap s_lsnap Tryz.f3 [.sl (l.map Cmd.enc) k, .sl (l2.map Cmd.enc) k2] s K = ( AC Tryz.prog 8 [] s fun v0 s1 => ∃ b2, v0 = V.bool b2 ∧ bif !b2 then K (V.bool false) s1 else AC Tryz.prog 9 [V.sl (List.map Cmd.enc l) k] s1 fun v3 s4 => ∃ b5, v3 = V.bool b5 ∧ bif !b5 then AC Tryz.prog 9 [V.sl (List.map Cmd.enc l2) k2] s4 fun v6 s7 => ∃ b8, v6 = V.bool b8 ∧ bif b8 then K (V.bool b2) s7 else AC Tryz.prog 10 [] s7 fun v9 s10 => ∃ i11, v9 = V.ptr i11 0 ∧ lfp (fun s12 l13 s14 => ∃ n15, l13 = [V.int IntKind.i64 n15] ∧ bif decide (n15 < (↑(List.map Cmd.enc l).length : Int)) then 0 ≤ n15 ∧ ∃ v16, (List.map Cmd.enc l)[n15.toNat]? = some v16 ∧ ∃ n17 n18 n19 t20 t21 n22 n23 n24, v16 = V.agg [V.int IntKind.i64 n17, V.int IntKind.i64 n18, V.int IntKind.i64 n19, V.str t20, V.str t21, V.int IntKind.i64 n22, V.int IntKind.i64 n23, V.int IntKind.i64 n24] ∧ AC Tryz.prog 11 [V.ptr i11 0, V.agg [V.int IntKind.i64 n17, V.int IntKind.i64 n18, V.int IntKind.i64 n19, V.str t20, V.str t21, V.int IntKind.i64 n22, V.int IntKind.i64 n23, V.int IntKind.i64 n24], V.agg [V.int IntKind.i64 0, V.str (ByteArray.mk #[]), V.int IntKind.i64 5, V.sl [] Cap.full]] s14 fun v25 s26 => ∃ n27 t28 n29 l30 c31, v25 = V.agg [V.int IntKind.i64 n27, V.str t28, V.int IntKind.i64 n29, V.sl l30 c31] ∧ s12 [V.int IntKind.i64 (IntKind.i64.wrap (n15 + 1))] s26 else AC Tryz.prog 13 [V.ptr i11 0] s14 fun v32 s33 => ∃ l34 c35, v32 = V.sl l34 c35 ∧ AC Tryz.prog 14 [V.ptr i11 0] s33 fun v36 s37 => ∃ l38 c39, v36 = V.sl l38 c39 ∧ AC Tryz.prog 12 [V.sl l34 c35, V.sl l38 c39] s37 fun v40 s41 => ∃ i42 n43, v40 = V.tup [V.ptr i42 0, V.int IntKind.i64 n43] ∧ bif !n43 != 0 then AC Tryz.prog 15 [V.ptr i11 0, V.ptr i42 0] s41 fun v44 s45 => ∃ b46, v44 = V.bool b46 ∧ bif !b46 then K (V.bool false) s45 else lfp (fun s47 l48 s49 => ∃ n50, l48 = [V.int IntKind.i64 n50] ∧ bif decide (n50 < (↑(List.map Cmd.enc l2).length : Int)) then 0 ≤ n50 ∧ ∃ v51, (List.map Cmd.enc l2)[n50.toNat]? = some v51 ∧ ∃ n52 n53 n54 t55 t56 n57 n58 n59, v51 = V.agg [V.int IntKind.i64 n52, V.int IntKind.i64 n53, V.int IntKind.i64 n54, V.str t55, V.str t56, V.int IntKind.i64 n57, V.int IntKind.i64 n58, V.int IntKind.i64 n59] ∧ AC Tryz.prog 11 [V.ptr i11 0, V.agg [V.int IntKind.i64 n52, V.int IntKind.i64 n53, V.int IntKind.i64 n54, V.str t55, V.str t56, V.int IntKind.i64 n57, V.int IntKind.i64 n58, V.int IntKind.i64 n59], V.agg [V.int IntKind.i64 0, V.str (ByteArray.mk #[]), V.int IntKind.i64 0, V.sl [] Cap.full]] s49 fun v60 s61 => ∃ n62 t63 n64 l65 c66, v60 = V.agg [V.int IntKind.i64 n62, V.str t63, V.int IntKind.i64 n64, V.sl l65 c66] ∧ 0 ≤ n50 ∧ ∃ v67, (List.map Cmd.enc l2)[n50.toNat]? = some v67 ∧ ∃ n68 n69 n70 t71 t72 n73 n74 n75, v67 = V.agg [V.int IntKind.i64 n68, V.int IntKind.i64 n69, V.int IntKind.i64 n70, V.str t71, V.str t72, V.int IntKind.i64 n73, V.int IntKind.i64 n74, V.int IntKind.i64 n75] ∧ AC Tryz.prog 11 [V.ptr i42 0, V.agg [V.int IntKind.i64 n68, V.int IntKind.i64 n69, V.int IntKind.i64 n70, V.str t71, V.str t72, V.int IntKind.i64 n73, V.int IntKind.i64 n74, V.int IntKind.i64 n75], V.agg [V.int IntKind.i64 0, V.str (ByteArray.mk #[]), V.int IntKind.i64 0, V.sl [] Cap.full]] s61 fun v76 s77 => ∃ n78 t79 n80 l81 c82, v76 = V.agg [V.int IntKind.i64 n78, V.str t79, V.int IntKind.i64 n80, V.sl l81 c82] ∧ AC Tryz.prog 16 [V.agg [V.int IntKind.i64 n62, V.str t63, V.int IntKind.i64 n64, V.sl l65 c66], V.agg [V.int IntKind.i64 n78, V.str t79, V.int IntKind.i64 n80, V.sl l81 c82]] s77 fun v83 s84 => ∃ b85, v83 = V.bool b85 ∧ bif !b85 then K (V.bool false) s84 else s47 [V.int IntKind.i64 (IntKind.i64.wrap (n50 + 1))] s84 else bif b2 then AC Tryz.prog 15 [V.ptr i11 0, V.ptr i42 0] s49 fun v86 s87 => ∃ b88, v86 = V.bool b88 ∧ K (V.bool b88) s87 else K (V.bool false) s49) [V.int IntKind.i64 0] s45 else K (V.bool false) s41) [V.int IntKind.i64 0] s10 else K (V.bool b2) s4) := by kernel_rfl
theorem ok_lsnap : okFn h_lsnap Tryz.f3 = true := by kernel_rfl
theorem fn_lsnap : Tryz.prog.funcs[3]? = some Tryz.f3 := by kernel_rfl
theorem ca_lsnap : callable Tryz.prog 3 = true := by kernel_rfl
abbrev n_lolds : Go.FuncId := 4
noncomputable def h_lolds : Hints := { n := 154, esc := fun _ => false, lr := fun i => match i with | 4 => [34, 41, 79, 117, 129, 139, 149] | 5 => [39] | 12 => [135] | 13 => [145] | _ => [], bx := fun i => mem i [4, 5, 12, 13], lc := fun i => mem i [4, 5, 12, 13, 34, 39, 41, 79, 117, 129, 135, 139, 145, 149], quiet := fun i => mem i [17], order := fun i => match i with | 12 => some [0, 1, 2, 3, 4, 5, 6, 7, 8, 9, 10, 11, 12, 13, 14, 15, 16, 17, 18, 19, 20, 21, 22] | 23 => some [0, 1, 2, 3, 4, 5, 6, 7] | _ => none, join := fun _ => none, carry := fun i => match i with | 9 => [9, 10] | 21 => [15, 16] | _ => [] }
noncomputable def s_lolds : Shapes := { carry := fun i => match i with | 9 => [shA Tryz.prog 3, shA Tryz.prog 3] | 21 => [shA Tryz.prog 3, shA Tryz.prog 3] | _ => [], res := fun _ => none }
theorem e_lolds (l : List Cmd) (k : Cap) (c o : Cmd) (s : Store) (K : V → Store → Prop) : tfun Tryz.prog h_lolds s_lolds Tryz.f4 [.sl (l.map Cmd.enc) k, c.enc, o.enc] s K = ( AC Tryz.prog 8 [] s fun v0 s1 => ∃ b2, v0 = V.bool b2 ∧ bif !b2 then K (V.bool false) s1 else AC Tryz.prog 9 [V.sl (List.map Cmd.enc l) k] s1 fun v3 s4 => ∃ b5, v3 = V.bool b5 ∧ bif !b5 then AC Tryz.prog 9 [V.sl [V.agg [V.int IntKind.i64 c.client, V.int IntKind.i64 c.seq, V.int IntKind.i64 c.op, V.str (bs c.path), V.str (bs c.value), V.int IntKind.i64 c.version, V.int IntKind.i64 c.a, V.int IntKind.i64 c.b], V.agg [V.int IntKind.i64 o.client, V.int IntKind.i64 o.seq, V.int IntKind.i64 o.op, V.str (bs o.path), V.str (bs o.value), V.int IntKind.i64 o.version, V.int IntKind.i64 o.a, V.int IntKind.i64 o.b]] Cap.full] s4 fun v6 s7 => ∃ b8, v6 = V.bool b8 ∧ bif !b8 then AC Tryz.prog 17 [V.agg [V.int IntKind.i64 c.client, V.int IntKind.i64 c.seq, V.int IntKind.i64 c.op, V.str (bs c.path), V.str (bs c.value), V.int IntKind.i64 c.version, V.int IntKind.i64 c.a, V.int IntKind.i64 c.b]] s7 fun v9 s10 => ∃ b11, v9 = V.bool b11 ∧ bif !!b11 then bif !c.op == 0 then bif o.client == c.client then K (V.bool b2) s10 else AC Tryz.prog 10 [] s10 fun v12 s13 => ∃ i14, v12 = V.ptr i14 0 ∧ lfp (fun s15 l16 s17 => ∃ n18 n19, l16 = [V.int IntKind.i64 n18, V.int IntKind.i64 n19] ∧ bif decide (n19 < (↑(List.map Cmd.enc l).length : Int)) then 0 ≤ n19 ∧ ∃ v20, (List.map Cmd.enc l)[n19.toNat]? = some v20 ∧ ∃ n21 n22 n23 t24 t25 n26 n27 n28, v20 = V.agg [V.int IntKind.i64 n21, V.int IntKind.i64 n22, V.int IntKind.i64 n23, V.str t24, V.str t25, V.int IntKind.i64 n26, V.int IntKind.i64 n27, V.int IntKind.i64 n28] ∧ AC Tryz.prog 11 [V.ptr i14 0, V.agg [V.int IntKind.i64 n21, V.int IntKind.i64 n22, V.int IntKind.i64 n23, V.str t24, V.str t25, V.int IntKind.i64 n26, V.int IntKind.i64 n27, V.int IntKind.i64 n28], V.agg [V.int IntKind.i64 0, V.str (ByteArray.mk #[]), V.int IntKind.i64 0, V.sl [] Cap.full]] s17 fun v29 s30 => ∃ n31 t32 n33 l34 c35, v29 = V.agg [V.int IntKind.i64 n31, V.str t32, V.int IntKind.i64 n33, V.sl l34 c35] ∧ 0 ≤ n19 ∧ ∃ v36, (List.map Cmd.enc l)[n19.toNat]? = some v36 ∧ ∃ n37 n38 n39 t40 t41 n42 n43 n44, v36 = V.agg [V.int IntKind.i64 n37, V.int IntKind.i64 n38, V.int IntKind.i64 n39, V.str t40, V.str t41, V.int IntKind.i64 n42, V.int IntKind.i64 n43, V.int IntKind.i64 n44] ∧ bif n39 != 0 then 0 ≤ n19 ∧ ∃ v45, (List.map Cmd.enc l)[n19.toNat]? = some v45 ∧ ∃ n46 n47 n48 t49 t50 n51 n52 n53, v45 = V.agg [V.int IntKind.i64 n46, V.int IntKind.i64 n47, V.int IntKind.i64 n48, V.str t49, V.str t50, V.int IntKind.i64 n51, V.int IntKind.i64 n52, V.int IntKind.i64 n53] ∧ AC Tryz.prog 17 [V.agg [V.int IntKind.i64 n46, V.int IntKind.i64 n47, V.int IntKind.i64 n48, V.str t49, V.str t50, V.int IntKind.i64 n51, V.int IntKind.i64 n52, V.int IntKind.i64 n53]] s30 fun v54 s55 => s30.le s55 ∧ ∃ b56, v54 = V.bool b56 ∧ bif b56 then 0 ≤ n19 ∧ ∃ v57, (List.map Cmd.enc l)[n19.toNat]? = some v57 ∧ ∃ n58 n59 n60 t61 t62 n63 n64 n65, v57 = V.agg [V.int IntKind.i64 n58, V.int IntKind.i64 n59, V.int IntKind.i64 n60, V.str t61, V.str t62, V.int IntKind.i64 n63, V.int IntKind.i64 n64, V.int IntKind.i64 n65] ∧ bif n58 == c.client then 0 ≤ n19 ∧ ∃ v66, (List.map Cmd.enc l)[n19.toNat]? = some v66 ∧ ∃ n67 n68 n69 t70 t71 n72 n73 n74, v66 = V.agg [V.int IntKind.i64 n67, V.int IntKind.i64 n68, V.int IntKind.i64 n69, V.str t70, V.str t71, V.int IntKind.i64 n72, V.int IntKind.i64 n73, V.int IntKind.i64 n74] ∧ s15 [V.int IntKind.i64 (max n18 n68), V.int IntKind.i64 (IntKind.i64.wrap (n19 + 1))] s55 else s15 [V.int IntKind.i64 n18, V.int IntKind.i64 (IntKind.i64.wrap (n19 + 1))] s55 else s15 [V.int IntKind.i64 n18, V.int IntKind.i64 (IntKind.i64.wrap (n19 + 1))] s55 else s15 [V.int IntKind.i64 n18, V.int IntKind.i64 (IntKind.i64.wrap (n19 + 1))] s30 else AC Tryz.prog 18 [V.ptr i14 0] s17 fun v75 s76 => ∃ i77, v75 = V.ptr i77 0 ∧ AC Tryz.prog 11 [V.ptr i77 0, V.agg [V.int IntKind.i64 o.client, V.int IntKind.i64 o.seq, V.int IntKind.i64 o.op, V.str (bs o.path), V.str (bs o.value), V.int IntKind.i64 o.version, V.int IntKind.i64 o.a, V.int IntKind.i64 o.b], V.agg [V.int IntKind.i64 0, V.str (ByteArray.mk #[]), V.int IntKind.i64 0, V.sl [] Cap.full]] s76 fun v78 s79 => ∃ n80 t81 n82 l83 c84, v78 = V.agg [V.int IntKind.i64 n80, V.str t81, V.int IntKind.i64 n82, V.sl l83 c84] ∧ AC Tryz.prog 11 [V.ptr i14 0, V.agg [V.int IntKind.i64 c.client, V.int IntKind.i64 c.seq, V.int IntKind.i64 c.op, V.str (bs c.path), V.str (bs c.value), V.int IntKind.i64 c.version, V.int IntKind.i64 c.a, V.int IntKind.i64 c.b], V.agg [V.int IntKind.i64 0, V.str (ByteArray.mk #[]), V.int IntKind.i64 0, V.sl [] Cap.full]] s79 fun v85 s86 => ∃ n87 t88 n89 l90 c91, v85 = V.agg [V.int IntKind.i64 n87, V.str t88, V.int IntKind.i64 n89, V.sl l90 c91] ∧ AC Tryz.prog 11 [V.ptr i77 0, V.agg [V.int IntKind.i64 c.client, V.int IntKind.i64 c.seq, V.int IntKind.i64 c.op, V.str (bs c.path), V.str (bs c.value), V.int IntKind.i64 c.version, V.int IntKind.i64 c.a, V.int IntKind.i64 c.b], V.agg [V.int IntKind.i64 0, V.str (ByteArray.mk #[]), V.int IntKind.i64 0, V.sl [] Cap.full]] s86 fun v92 s93 => ∃ n94 t95 n96 l97 c98, v92 = V.agg [V.int IntKind.i64 n94, V.str t95, V.int IntKind.i64 n96, V.sl l97 c98] ∧ AC Tryz.prog 14 [V.ptr i14 0] s93 fun v99 s100 => ∃ l101 c102, v99 = V.sl l101 c102 ∧ lfp (fun s103 l104 s105 => ∃ n106 n107, l104 = [V.int IntKind.i64 n106, V.int IntKind.i64 n107] ∧ bif decide (n107 < (↑l101.length : Int)) then 0 ≤ n107 ∧ ∃ v108, l101[n107.toNat]? = some v108 ∧ ∃ n109 n110 n111 t112 n113 l114 c115, v108 = V.agg [V.int IntKind.i64 n109, V.int IntKind.i64 n110, V.int IntKind.i64 n111, V.str t112, V.int IntKind.i64 n113, V.sl l114 c115] ∧ bif n109 == c.client then 0 ≤ n107 ∧ ∃ v116, l101[n107.toNat]? = some v116 ∧ ∃ n117 n118 n119 t120 n121 l122 c123, v116 = V.agg [V.int IntKind.i64 n117, V.int IntKind.i64 n118, V.int IntKind.i64 n119, V.str t120, V.int IntKind.i64 n121, V.sl l122 c123] ∧ s103 [V.int IntKind.i64 n118, V.int IntKind.i64 (IntKind.i64.wrap (n107 + 1))] s105 else s103 [V.int IntKind.i64 n106, V.int IntKind.i64 (IntKind.i64.wrap (n107 + 1))] s105 else bif b2 then bif n106 == max n18 c.seq then bif (n87 == 6) == decide (n18 > c.seq) then K (V.bool ((n94 == 6) == decide (n18 > c.seq))) s105 else K (V.bool false) s105 else K (V.bool false) s105 else K (V.bool false) s105) [V.int IntKind.i64 0, V.int IntKind.i64 0] s100) [V.int IntKind.i64 0, V.int IntKind.i64 0] s13 else K (V.bool b2) s10 else K (V.bool b2) s10 else K (V.bool b2) s7 else K (V.bool b2) s4) := by kernel_rfl
theorem ok_lolds : okFn h_lolds Tryz.f4 = true := by kernel_rfl
theorem fn_lolds : Tryz.prog.funcs[4]? = some Tryz.f4 := by kernel_rfl
theorem ca_lolds : callable Tryz.prog 4 = true := by kernel_rfl
abbrev n_lreads : Go.FuncId := 6
noncomputable def h_lreads : Hints := { n := 131, esc := fun _ => false, lr := fun i => match i with | 12 => [78, 82, 92] | _ => [], bx := fun i => mem i [10, 12, 15], lc := fun i => mem i [10, 12, 15, 78, 82, 92], quiet := fun i => mem i [16, 19], order := fun i => match i with | 20 => some [0, 1, 2, 3, 4, 5, 6, 7, 8, 9, 10, 11, 12, 13, 14, 15, 16, 17, 18, 19, 20, 21, 22, 23, 24, 25, 26, 27, 28, 29, 30, 31] | _ => none, join := fun _ => none, carry := fun i => match i with | 8 => [9] | 18 => [13] | 23 => [14] | _ => [] }
noncomputable def s_lreads : Shapes := { carry := fun i => match i with | 8 => [shA Tryz.prog 3] | 18 => [shA Tryz.prog 3] | 23 => [shA Tryz.prog 3] | _ => [], res := fun _ => none }
theorem e_lreads (l : List Cmd) (k : Cap) (p : Bytes) (l2 : List Cmd) (k2 : Cap) (s : Store) (K : V → Store → Prop) : tfun Tryz.prog h_lreads s_lreads Tryz.f6 [.sl (l.map Cmd.enc) k, .str (bs p), .sl (l2.map Cmd.enc) k2] s K = ( AC Tryz.prog 8 [] s fun v0 s1 => ∃ b2, v0 = V.bool b2 ∧ bif !b2 then K (V.bool false) s1 else AC Tryz.prog 9 [V.sl (List.map Cmd.enc l) k] s1 fun v3 s4 => ∃ b5, v3 = V.bool b5 ∧ bif !b5 then AC Tryz.prog 9 [V.sl (List.map Cmd.enc l2) k2] s4 fun v6 s7 => ∃ b8, v6 = V.bool b8 ∧ bif !b8 then bif decide ((↑(bs p).size : Int) > 300) then K (V.bool b2) s7 else AC Tryz.prog 10 [] s7 fun v9 s10 => ∃ i11, v9 = V.ptr i11 0 ∧ lfp (fun s12 l13 s14 => ∃ n15, l13 = [V.int IntKind.i64 n15] ∧ bif decide (n15 < (↑(List.map Cmd.enc l).length : Int)) then 0 ≤ n15 ∧ ∃ v16, (List.map Cmd.enc l)[n15.toNat]? = some v16 ∧ ∃ n17 n18 n19 t20 t21 n22 n23 n24, v16 = V.agg [V.int IntKind.i64 n17, V.int IntKind.i64 n18, V.int IntKind.i64 n19, V.str t20, V.str t21, V.int IntKind.i64 n22, V.int IntKind.i64 n23, V.int IntKind.i64 n24] ∧ bif n17 != 77 then 0 ≤ n15 ∧ ∃ v25, (List.map Cmd.enc l)[n15.toNat]? = some v25 ∧ ∃ n26 n27 n28 t29 t30 n31 n32 n33, v25 = V.agg [V.int IntKind.i64 n26, V.int IntKind.i64 n27, V.int IntKind.i64 n28, V.str t29, V.str t30, V.int IntKind.i64 n31, V.int IntKind.i64 n32, V.int IntKind.i64 n33] ∧ AC Tryz.prog 11 [V.ptr i11 0, V.agg [V.int IntKind.i64 n26, V.int IntKind.i64 n27, V.int IntKind.i64 n28, V.str t29, V.str t30, V.int IntKind.i64 n31, V.int IntKind.i64 n32, V.int IntKind.i64 n33], V.agg [V.int IntKind.i64 0, V.str (ByteArray.mk #[]), V.int IntKind.i64 0, V.sl [] Cap.full]] s14 fun v34 s35 => ∃ n36 t37 n38 l39 c40, v34 = V.agg [V.int IntKind.i64 n36, V.str t37, V.int IntKind.i64 n38, V.sl l39 c40] ∧ s12 [V.int IntKind.i64 (IntKind.i64.wrap (n15 + 1))] s35 else s12 [V.int IntKind.i64 (IntKind.i64.wrap (n15 + 1))] s14 else AC Tryz.prog 13 [V.ptr i11 0] s14 fun v41 s42 => ∃ l43 c44, v41 = V.sl l43 c44 ∧ AC Tryz.prog 11 [V.ptr i11 0, V.agg [V.int IntKind.i64 77, V.int IntKind.i64 1, V.int IntKind.i64 4, V.str (bs p), V.str (ByteArray.mk #[]), V.int IntKind.i64 0, V.int IntKind.i64 0, V.int IntKind.i64 0], V.agg [V.int IntKind.i64 0, V.str (ByteArray.mk #[]), V.int IntKind.i64 0, V.sl [] Cap.full]] s42 fun v45 s46 => ∃ n47 t48 n49 l50 c51, v45 = V.agg [V.int IntKind.i64 n47, V.str t48, V.int IntKind.i64 n49, V.sl l50 c51] ∧ AC Tryz.prog 13 [V.ptr i11 0] s46 fun v52 s53 => ∃ l54 c55, v52 = V.sl l54 c55 ∧ AC Tryz.prog 19 [V.sl l43 c44, V.sl l54 c55] s53 fun v56 s57 => ∃ b58, v56 = V.bool b58 ∧ bif !b58 then K (V.bool false) s57 else lfp (fun s59 l60 s61 => ∃ n62, l60 = [V.int IntKind.i64 n62] ∧ bif decide (n62 < (↑l43.length : Int)) then 0 ≤ n62 ∧ ∃ v63, l43[n62.toNat]? = some v63 ∧ ∃ t64 t65 n66, v63 = V.agg [V.str t64, V.str t65, V.int IntKind.i64 n66] ∧ bif t64.toList == (bs p).toList then bif !n47 != 0 then 0 ≤ n62 ∧ ∃ v67, l43[n62.toNat]? = some v67 ∧ ∃ t68 t69 n70, v67 = V.agg [V.str t68, V.str t69, V.int IntKind.i64 n70] ∧ bif !!t48.toList == t69.toList then 0 ≤ n62 ∧ ∃ v71, l43[n62.toNat]? = some v71 ∧ ∃ t72 t73 n74, v71 = V.agg [V.str t72, V.str t73, V.int IntKind.i64 n74] ∧ bif n49 != n74 then K (V.bool false) s61 else s59 [V.int IntKind.i64 (IntKind.i64.wrap (n62 + 1))] s61 else K (V.bool false) s61 else K (V.bool false) s61 else s59 [V.int IntKind.i64 (IntKind.i64.wrap (n62 + 1))] s61 else lfp (fun s75 l76 s77 => ∃ n78, l76 = [V.int IntKind.i64 n78] ∧ bif decide (n78 < (↑(List.map Cmd.enc l2).length : Int)) then 0 ≤ n78 ∧ ∃ v79, (List.map Cmd.enc l2)[n78.toNat]? = some v79 ∧ ∃ n80 n81 n82 t83 t84 n85 n86 n87, v79 = V.agg [V.int IntKind.i64 n80, V.int IntKind.i64 n81, V.int IntKind.i64 n82, V.str t83, V.str t84, V.int IntKind.i64 n85, V.int IntKind.i64 n86, V.int IntKind.i64 n87] ∧ bif n80 != 77 then 0 ≤ n78 ∧ ∃ v88, (List.map Cmd.enc l2)[n78.toNat]? = some v88 ∧ ∃ n89 n90 n91 t92 t93 n94 n95 n96, v88 = V.agg [V.int IntKind.i64 n89, V.int IntKind.i64 n90, V.int IntKind.i64 n91, V.str t92, V.str t93, V.int IntKind.i64 n94, V.int IntKind.i64 n95, V.int IntKind.i64 n96] ∧ AC Tryz.prog 11 [V.ptr i11 0, V.agg [V.int IntKind.i64 n89, V.int IntKind.i64 n90, V.int IntKind.i64 n91, V.str t92, V.str t93, V.int IntKind.i64 n94, V.int IntKind.i64 n95, V.int IntKind.i64 n96], V.agg [V.int IntKind.i64 0, V.str (ByteArray.mk #[]), V.int IntKind.i64 0, V.sl [] Cap.full]] s77 fun v97 s98 => ∃ n99 t100 n101 l102 c103, v97 = V.agg [V.int IntKind.i64 n99, V.str t100, V.int IntKind.i64 n101, V.sl l102 c103] ∧ s75 [V.int IntKind.i64 (IntKind.i64.wrap (n78 + 1))] s98 else s75 [V.int IntKind.i64 (IntKind.i64.wrap (n78 + 1))] s77 else AC Tryz.prog 11 [V.ptr i11 0, V.agg [V.int IntKind.i64 77, V.int IntKind.i64 1, V.int IntKind.i64 4, V.str (bs p), V.str (ByteArray.mk #[]), V.int IntKind.i64 0, V.int IntKind.i64 0, V.int IntKind.i64 0], V.agg [V.int IntKind.i64 0, V.str (ByteArray.mk #[]), V.int IntKind.i64 0, V.sl [] Cap.full]] s77 fun v104 s105 => ∃ n106 t107 n108 l109 c110, v104 = V.agg [V.int IntKind.i64 n106, V.str t107, V.int IntKind.i64 n108, V.sl l109 c110] ∧ bif b2 then AC Tryz.prog 16 [V.agg [V.int IntKind.i64 n47, V.str t48, V.int IntKind.i64 n49, V.sl l50 c51], V.agg [V.int IntKind.i64 n106, V.str t107, V.int IntKind.i64 n108, V.sl l109 c110]] s105 fun v111 s112 => ∃ b113, v111 = V.bool b113 ∧ K (V.bool b113) s112 else K (V.bool false) s105) [V.int IntKind.i64 0] s61) [V.int IntKind.i64 0] s57) [V.int IntKind.i64 0] s10 else K (V.bool b2) s7 else K (V.bool b2) s4) := by kernel_rfl
theorem ok_lreads : okFn h_lreads Tryz.f6 = true := by kernel_rfl
theorem fn_lreads : Tryz.prog.funcs[6]? = some Tryz.f6 := by kernel_rfl
theorem ca_lreads : callable Tryz.prog 6 = true := by kernel_rfl
end Go.Proofs.YtdeondiigpidnaaGreat.Ab
end

section
set_option linter.unusedVariables false
set_option linter.unusedSimpArgs false
/- Contracts: the document's example; commands that are done one by one; nothing that is told is done. -/
namespace Go.Proofs.YtdeondiigpidnaaGreat.Ab
open Go Go.Proofs Go.Sort
set_option linter.unusedVariables false
set_option linter.unusedSimpArgs false
set_option linter.unusedSectionVars false
variable [Fwd]

theorem MInv.ok {n : Nat} {M : Mach} (h : MInv n M) (hn : n ≤ 4294967295) : MachOk M where
  dir := ⟨h.dir.nodup, h.dir.valid, by have := h.dir.len; omega⟩
  nodup := h.nodup
  range := h.range
  names := fun e he => by have := h.names e he; omega
  len := by have := h.len; omega
theorem turned_turned {s : Store} {m q : Nat} (h : m ≠ q) (A B : Mach) : turned (turned s m q A) m q B = turned s m q B := by
  funext i
  simp only [turned, Store.upd]
  by_cases h1 : i = q
  · simp [h1]
  · by_cases h2 : i = m
    · simp [h2, h]
    · simp [h1, h2]
/-- a machine's turn leaves another machine as it is -/
structure Other (m q p' d' m' q' : Nat) : Prop where
  mp : p' ≠ m
  md : d' ≠ m
  mm : m' ≠ m
  mq : q' ≠ m
  qp : p' ≠ q
  qd : d' ≠ q
  qm : m' ≠ q
  qq : q' ≠ q
theorem HasMach.other {s : Store} {m q p' d' m' q' : Nat} {N : Mach} (h : HasMach s p' d' m' q' N) (o : Other m q p' d' m' q') (M : Mach) : HasMach (Ab.turned s m q M) p' d' m' q' N :=
  ⟨by simp [Ab.turned, Store.upd, o.mp, o.qp, h.ptr], ⟨by simp [Ab.turned, Store.upd, o.md, o.qd, h.dir.ptr], by simp [Ab.turned, Store.upd, o.mm, o.qm, h.dir.map]⟩, by simp [Ab.turned, Store.upd, o.mq, o.qq, h.lasts], h.ne⟩
theorem Other.of {s : Store} {p d m q p' d' m' q' : Nat} {M : Mach} (h : HasMach s p d m q M) (h1 : s p' = none) (h2 : s d' = none) (h3 : s m' = none) (h4 : s q' = none) : Other m q p' d' m' q' := by
  have e1 := h.dir.map
  have e2 := h.lasts
  constructor <;> (intro e; subst e; simp_all)
theorem Other.back {s : Store} {p d m q p' d' m' q' : Nat} {M : Mach} (h : HasMach s p d m q M) (h1 : s p' = none) (h2 : s d' = none) (h3 : s m' = none) (h4 : s q' = none) : Other m' q' p d m q := by
  have e1 := h.dir.map
  have e2 := h.lasts
  have e3 := h.ptr
  have e4 := h.dir.ptr
  constructor <;> (intro e; subst e; simp_all)

theorem ac_works (hf : Fwd.on = false) (s : Store) : AC Tryz.prog n_works9 [] s fun r _ => r = .bool true := by
  refine AC_of_tfun (H := h_works9) (S := s_works9) (K := fun r _ => r = .bool true) mixed fn_works9 ca_works9 ok_works9 ?_ fun r s' h => ⟨r, s', .refl _, .refl _, h⟩
  rw [e_works9]
  refine AC.mono (ac_snew s) ?_
  rintro _ s1 ⟨p, d, m, q, rfl, _, h, _, _, _, _⟩
  refine ⟨p, rfl, ?_⟩
  have i0 := MInv.nil
  have i1 := mApply_inv i0 (by omega) exC (rep0 0) (by decide)
  rw [ex1] at i1
  have b1 : ∀ {A B : Prop}, A → (bif (true : Bool) then A else B) := fun h => h
  refine (ac_sapply hf h (i0.ok (by omega)) exC (rep0 0) .full (by decide) (by decide)).use ⟨_, _, _, _, _, rfl, ?_⟩
  rw [ex1]
  have h1 := h.turned ⟨[⟨[47, 97], [], 1⟩], [⟨1, 1, ⟨0, [], 1, []⟩⟩]⟩
  have ok1 := i1.ok (by omega)
  refine (ac_sapply hf h1 ok1 exC (rep0 0) .full (by decide) (by decide)).use ⟨_, _, _, _, _, rfl, ?_⟩
  rw [ex2, turned_turned h.ne]
  refine (ac_spaths hf h1 ok1).use ⟨_, _, rfl, ?_⟩
  refine (ac_ssess hf h1 ok1).use ⟨_, _, rfl, ?_⟩
  refine AC.mono (ac_sof hf _ .any _ .any _ (by rw [(dsorted_perm _).length_eq]; decide) (fun e he => ok1.dir.plen e ((dsorted_perm _).mem_iff.1 he)) (by rw [(ssorted_perm _).length_eq]; decide) (fun e he => ok1.names e ((ssorted_perm _).mem_iff.1 he))) ?_
  intro r s2 ho
  unfold sofQ at ho
  rw [if_pos ⟨dOk_sorted i1.dir, sOk_sorted i1⟩] at ho
  obtain ⟨p', d', m', q', rfl, hle, h2, _, _, _, _, _, _⟩ := ho
  refine ⟨_, _, rfl, b1 (b1 (b1 (b1 ?_)))⟩
  have h3 := h1.le hle
  refine (ac_spaths hf h3 ok1).use ⟨_, _, rfl, ?_⟩
  rw [List.length_map, (dsorted_perm _).length_eq]
  refine b1 ?_
  refine (ac_ssess hf h3 ok1).use ⟨_, _, rfl, ?_⟩
  rw [List.length_map, (ssorted_perm _).length_eq]
  refine b1 (b1 ?_)
  refine (ac_valid exC s2).use ⟨_, rfl, ?_⟩
  refine b1 ?_
  refine AC.mono (ac_sclone h3) ?_
  rintro _ s4 ⟨p4, _, _, _, rfl, _⟩
  exact ⟨p4, rfl, rfl⟩

def ctl (v : Int) : Reply := ⟨0, [], v, []⟩
/-- commands, one by one -/
theorem loop_apply (hf : Fwd.on = false) {l : List Cmd} {v : Int} {s : Store} {p d m q n : Nat} {M : Mach} (h : HasMach s p d m q M) (hi : MInv n M) (hn : n + l.length ≤ 4294967295) (hp : ∀ c ∈ l, c.path.length ≤ 4294967296) {R : Store → Prop}
    (hR : R (turned s m q (mRun (ctl v) M l))) :
    lfp (fun X vs s' => ∃ n, vs = [V.int .i64 n] ∧ bif decide (n < ((l.map Cmd.enc).length : Int)) then 0 ≤ n ∧ ∃ w, (l.map Cmd.enc)[n.toNat]? = some w ∧ ∃ n1 n2 n3 t4 t5 n6 n7 n8, w = V.agg [V.int .i64 n1, V.int .i64 n2, V.int .i64 n3, V.str t4, V.str t5, V.int .i64 n6, V.int .i64 n7, V.int .i64 n8] ∧
      AC Tryz.prog n_sapply [V.ptr p 0, V.agg [V.int .i64 n1, V.int .i64 n2, V.int .i64 n3, V.str t4, V.str t5, V.int .i64 n6, V.int .i64 n7, V.int .i64 n8], V.agg [V.int .i64 0, V.str (ByteArray.mk #[]), V.int .i64 v, V.sl [] Cap.full]] s' fun r s2 => ∃ n30 t31 n32 l33 c34, r = V.agg [V.int .i64 n30, V.str t31, V.int .i64 n32, V.sl l33 c34] ∧ X [V.int .i64 (IntKind.i64.wrap (n + 1))] s2
      else R s') [V.int .i64 0] s := by
  refine lfp_up l.length (fun i vs s' => vs = [V.int .i64 i] ∧ turned s m q (mRun (ctl v) M (l.take i)) = s') ?_ ⟨rfl, by simp [mRun, turned_same h]⟩
  rintro i _ _ hil ⟨rfl, rfl⟩ X hX
  refine ⟨i, rfl, ?_⟩
  simp only [List.length_map]
  refine cond_of (fun h1 => ?_) (fun h1 => ?_)
  · have hlt : i < l.length := by simpa using h1
    have g1 : (l.map Cmd.enc)[(i : Int).toNat]? = some (Cmd.enc l[i]) := by simp [hlt]
    refine ⟨by omega, _, g1, _, _, _, _, _, _, _, _, rfl, ?_⟩
    have hinv := mRun_inv hi (ctl v) rfl (l.take i) (by simp; omega)
    refine (ac_sapply hf (h.turned _) (hinv.ok (by simp; omega)) l[i] (ctl v) .full (hp _ (List.getElem_mem _)) (by simp [ctl])).use ⟨_, _, _, _, _, rfl, ?_⟩
    rw [wrap_small (by omega), turned_turned h.ne]
    refine hX hlt _ _ ⟨by simp, ?_⟩
    rw [List.take_succ_eq_append_getElem hlt, mRun_append]
    rfl
  · have : i = l.length := by simp at h1; omega
    subst this
    rw [List.take_length]
    exact hR

theorem over_len {l : List Cmd} (h : over l = false) : l.length ≤ 60 ∧ ∀ c ∈ l, c.path.length ≤ 300 ∧ c.value.length ≤ 300 := by
  unfold over at h
  simp only [Bool.or_eq_false_iff, decide_eq_false_iff_not] at h
  have hl : l.length ≤ 60 := by omega
  refine ⟨hl, fun c hc => ?_⟩
  rw [List.take_of_length_le (by omega)] at h
  have h1 := List.any_eq_false.1 h.1 c hc
  unfold Cmd.long at h1
  simp only [Bool.or_eq_true, decide_eq_true_eq, not_or] at h1
  omega

theorem ac_lnone (hf : Fwd.on = false) (l : List Cmd) (k : Cap) (c : Cmd) (s : Store) : AC Tryz.prog n_lnone [.sl (l.map Cmd.enc) k, c.enc] s fun r _ => r = .bool true := by
  refine AC_of_tfun (H := h_lnone) (S := s_lnone) (K := fun r _ => r = .bool true) mixed fn_lnone ca_lnone ok_lnone ?_ fun r s' h => ⟨r, s', .refl _, .refl _, h⟩
  rw [e_lnone]
  refine AC.mono (ac_works hf s) ?_
  rintro _ s1 rfl
  refine ⟨true, rfl, ?_⟩
  simp only [Bool.not_true, cond_false]
  refine (ac_over l k s1).use ⟨_, rfl, ?_⟩
  refine cond_of (fun h1 => ?_) (fun h1 => trivial)
  refine (ac_over [c] .full s1).use ⟨_, rfl, ?_⟩
  refine cond_of (fun h2 => ?_) (fun h2 => trivial)
  have ol := over_len (by simpa using h1 : over l = false)
  have oc := (over_len (by simpa using h2 : over [c] = false)).2 c (by simp)
  have hpl : ∀ x ∈ l, x.path.length ≤ 4294967296 := fun x hx => by have := (ol.2 x hx).1; omega
  -- the rest, whichever way is taken
  have rest : (c.op = 0 ∨ c.ok = false) → ∀ (s3 : Store) (p d m q : Nat), HasMach s3 p d m q ⟨[], []⟩ →
      AC Tryz.prog 18 [V.ptr p 0] (turned s3 m q (mRun (ctl 0) ⟨[], []⟩ l)) fun v35 s36 => ∃ i37, v35 = V.ptr i37 0 ∧ AC Tryz.prog 11 [V.ptr p 0, V.agg [V.int IntKind.i64 c.client, V.int IntKind.i64 c.seq, V.int IntKind.i64 c.op, V.str (bs c.path), V.str (bs c.value), V.int IntKind.i64 c.version, V.int IntKind.i64 c.a, V.int IntKind.i64 c.b], V.agg [V.int IntKind.i64 0, V.str (ByteArray.mk #[]), V.int IntKind.i64 7, V.sl [] Cap.full]] s36 fun v38 s39 => ∃ n40 t41 n42 l43 c44, v38 = V.agg [V.int IntKind.i64 n40, V.str t41, V.int IntKind.i64 n42, V.sl l43 c44] ∧ bif c.op != 0 then bif true then AC Tryz.prog 16 [V.agg [V.int IntKind.i64 n40, V.str t41, V.int IntKind.i64 n42, V.sl l43 c44], V.agg [V.int IntKind.i64 1, V.str (ByteArray.mk #[]), V.int IntKind.i64 0, V.sl [] Cap.full]] s39 fun v45 s46 => ∃ b47, v45 = V.bool b47 ∧ bif b47 then AC Tryz.prog 15 [V.ptr p 0, V.ptr i37 0] s46 fun v48 s49 => ∃ b50, v48 = V.bool b50 ∧ V.bool b50 = V.bool true else V.bool false = V.bool true else V.bool false = V.bool true else bif true then AC Tryz.prog 16 [V.agg [V.int IntKind.i64 n40, V.str t41, V.int IntKind.i64 n42, V.sl l43 c44], V.agg [V.int IntKind.i64 0, V.str (ByteArray.mk #[]), V.int IntKind.i64 0, V.sl [] Cap.full]] s39 fun v51 s52 => ∃ b53, v51 = V.bool b53 ∧ bif b53 then AC Tryz.prog 15 [V.ptr p 0, V.ptr i37 0] s52 fun v54 s55 => ∃ b56, v54 = V.bool b56 ∧ V.bool b56 = V.bool true else V.bool false = V.bool true else V.bool false = V.bool true := by
    intro hno s3 p d m q h3
    have h4 := h3.turned (mRun (ctl 0) ⟨[], []⟩ l)
    have hinv := mRun_inv .nil (ctl 0) rfl l (by omega)
    have hok := hinv.ok (by omega)
    refine AC.mono (ac_sclone h4) ?_
    rintro _ s4 ⟨p', d', m', q', rfl, hle, h5, f1, f2, f3, f4⟩
    refine ⟨p', rfl, ?_⟩
    have h6 := h4.le hle
    refine (ac_sapply hf h6 hok c (ctl 7) .full (by omega) (by decide)).use ⟨_, _, _, _, _, rfl, ?_⟩
    rw [mApply_none hno, turned_same h6]
    have fin : ∀ e : Int, e = (if c.op = 0 then 0 else 1) → AC Tryz.prog 16 [(rep0 (if c.op = 0 then 0 else 1)).enc .any, (rep0 e).enc .full] s4 fun v45 s46 => ∃ b47, v45 = V.bool b47 ∧ bif b47 then AC Tryz.prog 15 [V.ptr p 0, V.ptr p' 0] s46 fun v48 s49 => ∃ b50, v48 = V.bool b50 ∧ V.bool b50 = V.bool true else V.bool false = V.bool true := by
      rintro _ rfl
      refine (ac_same _ _ .any .full s4 (by simp [rep0])).use ⟨_, rfl, ?_⟩
      rw [decide_eq_true rfl, cond_true]
      refine (ac_same9 hf h6 hok h5 hok).use ?_
      exact ⟨_, rfl, by rw [same_refl]⟩
    refine cond_of (fun h7 => ?_) (fun h7 => ?_)
    · exact fin 1 (by rw [if_neg (by simpa using h7)])
    · exact fin 0 (by rw [if_pos (by simpa using h7)])
  refine cond_of (fun h3 => ?_) (fun h3 => ?_)
  · refine (ac_valid c s1).use ⟨_, rfl, ?_⟩
    refine cond_of (fun h4 => trivial) (fun h4 => ?_)
    refine AC.mono (ac_snew s1) ?_
    rintro _ s2 ⟨p, d, m, q, rfl, _, h5, _, _, _, _⟩
    refine ⟨p, rfl, ?_⟩
    exact loop_apply hf (v := 0) h5 .nil (by omega) hpl (rest (.inr h4) s2 p d m q h5)
  · refine AC.mono (ac_snew s1) ?_
    rintro _ s2 ⟨p, d, m, q, rfl, _, h5, _, _, _, _⟩
    refine ⟨p, rfl, ?_⟩
    exact loop_apply hf (v := 0) h5 .nil (by omega) hpl (rest (.inl (by simpa using h3)) s2 p d m q h5)

end Go.Proofs.YtdeondiigpidnaaGreat.Ab
end

section
set_option linter.unusedVariables false
set_option linter.unusedSimpArgs false
/- Contracts: what a machine has makes it again; a client goes on; what is read. -/
namespace Go.Proofs.YtdeondiigpidnaaGreat.Ab
open Go Go.Proofs Go.Sort
set_option linter.unusedVariables false
set_option linter.unusedSimpArgs false
set_option linter.unusedSectionVars false
variable [Fwd]

theorem ac_lsnap (hf : Fwd.on = false) (l : List Cmd) (k : Cap) (l2 : List Cmd) (k2 : Cap) (s : Store) : AC Tryz.prog n_lsnap [.sl (l.map Cmd.enc) k, .sl (l2.map Cmd.enc) k2] s fun r _ => r = .bool true := by
  refine AC_of_tfun (H := h_lsnap) (S := s_lsnap) (K := fun r _ => r = .bool true) mixed fn_lsnap ca_lsnap ok_lsnap ?_ fun r s' h => ⟨r, s', .refl _, .refl _, h⟩
  rw [e_lsnap]
  refine AC.mono (ac_works hf s) ?_
  rintro _ s1 rfl
  refine ⟨true, rfl, ?_⟩
  simp only [Bool.not_true, cond_false, cond_true]
  refine (ac_over l k s1).use ⟨_, rfl, ?_⟩
  refine cond_of (fun h1 => ?_) (fun h1 => trivial)
  refine (ac_over l2 k2 s1).use ⟨_, rfl, ?_⟩
  refine cond_of (fun h2 => trivial) (fun h2 => ?_)
  have ol := over_len (by simpa using h1 : over l = false)
  have ol2 := over_len h2
  have hpl : ∀ x ∈ l, x.path.length ≤ 4294967296 := fun x hx => by have := (ol.2 x hx).1; omega
  have hpl2 : ∀ x ∈ l2, x.path.length ≤ 4294967296 := fun x hx => by have := (ol2.2 x hx).1; omega
  refine AC.mono (ac_snew s1) ?_
  rintro _ s2 ⟨p, d, m, q, rfl, _, h3, _, _, _, _⟩
  refine ⟨p, rfl, ?_⟩
  refine loop_apply hf (v := 5) h3 .nil (by omega) hpl ?_
  have h4 := h3.turned (mRun (ctl 5) ⟨[], []⟩ l)
  have hinv := mRun_inv .nil (ctl 5) rfl l (by omega)
  have hok := hinv.ok (by omega)
  generalize hM : mRun (ctl 5) ⟨[], []⟩ l = M at *
  refine (ac_spaths hf h4 hok).use ⟨_, _, rfl, ?_⟩
  refine (ac_ssess hf h4 hok).use ⟨_, _, rfl, ?_⟩
  refine AC.mono (ac_sof hf _ .any _ .any _ (by rw [(dsorted_perm _).length_eq]; exact hok.dir.len) (fun e he => hok.dir.plen e ((dsorted_perm _).mem_iff.1 he)) (by rw [(ssorted_perm _).length_eq]; exact hok.len) (fun e he => hok.names e ((ssorted_perm _).mem_iff.1 he))) ?_
  intro r s5 ho
  unfold sofQ at ho
  rw [if_pos ⟨dOk_sorted hinv.dir, sOk_sorted hinv⟩] at ho
  obtain ⟨p', d', m', q', rfl, hle, h6, f1, f2, f3, f4, _, _⟩ := ho
  refine ⟨_, _, rfl, ?_⟩
  have e0 : (!(0 : Int) != 0) = true := rfl
  rw [e0, cond_true]
  have h5 := h4.le hle
  have h6' : HasMach s5 p' d' m' q' (snap M) := h6
  have hsn := hinv.snap
  have heq := snap_eq hinv
  have oth := Other.of h4 f1 f2 f3 f4
  have bak := Other.back h4 f1 f2 f3 f4
  refine (ac_same9 hf h5 hok h6' (hsn.ok (by omega))).use ?_
  refine ⟨_, rfl, ?_⟩
  rw [same_of_eq heq.symm hinv hsn]
  simp only [Bool.not_true, cond_false]
  -- both go on
  have go : ∀ i, i ≤ l2.length → MInv (0 + l.length + (l2.take i).length) (mRun (ctl 0) M (l2.take i)) ∧ MInv (0 + l.length + (l2.take i).length) (mRun (ctl 0) (snap M) (l2.take i)) := fun i hi =>
    ⟨mRun_inv hinv (ctl 0) rfl _ (by simp; omega), mRun_inv hsn (ctl 0) rfl _ (by simp; omega)⟩
  refine lfp_up l2.length (fun i vs s' => vs = [V.int .i64 i] ∧ HasMach s' p d m q (mRun (ctl 0) M (l2.take i)) ∧ HasMach s' p' d' m' q' (mRun (ctl 0) (snap M) (l2.take i)) ∧ MEq (mRun (ctl 0) M (l2.take i)) (mRun (ctl 0) (snap M) (l2.take i))) ?_ ⟨rfl, by simpa [mRun] using h5, by simpa [mRun] using h6', by simpa [mRun] using heq.symm⟩
  rintro i _ s7 hil ⟨rfl, g1, g2, g3⟩ X hX
  refine ⟨i, rfl, ?_⟩
  obtain ⟨j1, j2⟩ := go i hil
  have hb : 0 + l.length + (l2.take i).length ≤ 4294967295 := by simp; omega
  simp only [List.length_map]
  refine cond_of (fun c1 => ?_) (fun c1 => ?_)
  · have hlt : i < l2.length := by simpa using c1
    have gi : (l2.map Cmd.enc)[(i : Int).toNat]? = some (Cmd.enc l2[i]) := by simp [hlt]
    refine ⟨by omega, _, gi, _, _, _, _, _, _, _, _, rfl, ?_⟩
    refine (ac_sapply hf g1 (j1.ok hb) l2[i] (ctl 0) .full (hpl2 _ (List.getElem_mem _)) (by simp [ctl])).use ⟨_, _, _, _, _, rfl, ?_⟩
    refine ⟨by omega, _, gi, _, _, _, _, _, _, _, _, rfl, ?_⟩
    have g2' := g2.other oth (mApply (mRun (ctl 0) M (l2.take i)) l2[i] (ctl 0)).1
    have g1' := g1.turned (mApply (mRun (ctl 0) M (l2.take i)) l2[i] (ctl 0)).1
    refine (ac_sapply hf g2' (j2.ok hb) l2[i] (ctl 0) .full (hpl2 _ (List.getElem_mem _)) (by simp [ctl])).use ⟨_, _, _, _, _, rfl, ?_⟩
    have hm := mApply_eq g3 j1 j2 l2[i] (ctl 0)
    have hnl : (mApply (mRun (ctl 0) M (l2.take i)) l2[i] (ctl 0)).2.names.length ≤ 4294967296 := by
      have := mApply_inv j1 (by omega) l2[i] (ctl 0) (by simp [ctl])
      unfold mApply
      have h1 := dApply_names (j1.ok hb).dir.len l2[i]
      have h2 := (j1.ok hb).snames l2[i].client
      repeat' split
      all_goals first
        | exact h2
        | exact h1
        | (simp [rep0, ctl]; done)
    refine (ac_same _ _ .any .any _ hnl).use ⟨_, rfl, ?_⟩
    rw [decide_eq_true hm.2]
    simp only [Bool.not_true, cond_false]
    rw [wrap_small (by omega)]
    have et : l2.take (i + 1) = l2.take i ++ [l2[i]] := List.take_succ_eq_append_getElem hlt
    refine hX hlt _ _ ⟨by simp, ?_, ?_, ?_⟩
    · rw [et, mRun_append]; exact g1'.other bak _
    · rw [et, mRun_append]; exact g2'.turned _
    · rw [et, mRun_append, mRun_append]; exact hm.1
  · refine (ac_same9 hf g1 (j1.ok hb) g2 (j2.ok hb)).use ?_
    exact ⟨_, rfl, by rw [same_of_eq g3 j1 j2]⟩

theorem ac_lolds (hf : Fwd.on = false) (l : List Cmd) (k : Cap) (c o : Cmd) (s : Store) : AC Tryz.prog n_lolds [.sl (l.map Cmd.enc) k, c.enc, o.enc] s fun r _ => r = .bool true := by
  refine AC_of_tfun (H := h_lolds) (S := s_lolds) (K := fun r _ => r = .bool true) mixed fn_lolds ca_lolds ok_lolds ?_ fun r s' h => ⟨r, s', .refl _, .refl _, h⟩
  rw [e_lolds]
  refine AC.mono (ac_works hf s) ?_
  rintro _ s1 rfl
  refine ⟨true, rfl, ?_⟩
  simp only [Bool.not_true, cond_false, cond_true]
  refine (ac_over l k s1).use ⟨_, rfl, ?_⟩
  refine cond_of (fun h1 => ?_) (fun h1 => trivial)
  refine (ac_over [c, o] .full s1).use ⟨_, rfl, ?_⟩
  refine cond_of (fun h2 => ?_) (fun h2 => trivial)
  have ol := over_len (by simpa using h1 : over l = false)
  have oc := (over_len (by simpa using h2 : over [c, o] = false)).2
  have hpc := (oc c (by simp)).1
  have hpo := (oc o (by simp)).1
  have hpl : ∀ x ∈ l, x.path.length ≤ 4294967296 := fun x hx => by have := (ol.2 x hx).1; omega
  refine (ac_valid c s1).use ⟨_, rfl, ?_⟩
  refine cond_of (fun h3 => ?_) (fun h3 => trivial)
  have hok : c.ok = true := by simpa using h3
  refine cond_of (fun h4 => ?_) (fun h4 => trivial)
  have hop : c.op ≠ 0 := by simpa using h4
  refine cond_of (fun h5 => trivial) (fun h5 => ?_)
  have hoc : o.client ≠ c.client := by simpa using h5
  refine AC.mono (ac_snew s1) ?_
  rintro _ s2 ⟨p, d, m, q, rfl, _, h6, _, _, _, _⟩
  refine ⟨p, rfl, ?_⟩
  have inv : ∀ i, i ≤ l.length → MInv (0 + (l.take i).length) (mRun (ctl 0) ⟨[], []⟩ (l.take i)) := fun i hi => mRun_inv .nil (ctl 0) rfl _ (by simp; omega)
  have hlast : ∀ i, i ≤ l.length → sseq (mRun (ctl 0) ⟨[], []⟩ (l.take i)).lasts c.client = lastOf c.client (l.take i) 0 := fun i hi => mRun_seq _ _ _ _
  refine lfp_up l.length (fun i vs s' => vs = [V.int .i64 (lastOf c.client (l.take i) 0), V.int .i64 i] ∧ turned s2 m q (mRun (ctl 0) ⟨[], []⟩ (l.take i)) = s') ?_ ⟨rfl, by simp [mRun, turned_same h6]⟩
  rintro i _ _ hil ⟨rfl, rfl⟩ X hX
  refine ⟨_, i, rfl, ?_⟩
  have h7 := h6.turned (mRun (ctl 0) ⟨[], []⟩ (l.take i))
  have hb : 0 + (l.take i).length ≤ 4294967295 := by simp; omega
  simp only [List.length_map]
  refine cond_of (fun c1 => ?_) (fun c1 => ?_)
  · have hlt : i < l.length := by simpa using c1
    have gi : (l.map Cmd.enc)[(i : Int).toNat]? = some (Cmd.enc l[i]) := by simp [hlt]
    refine ⟨by omega, _, gi, _, _, _, _, _, _, _, _, rfl, ?_⟩
    refine (ac_sapply hf h7 ((inv i hil).ok hb) l[i] (ctl 0) .full (hpl _ (List.getElem_mem _)) (by simp [ctl])).use ⟨_, _, _, _, _, rfl, ?_⟩
    refine ⟨by omega, _, gi, _, _, _, _, _, _, _, _, rfl, ?_⟩
    have et : l.take (i + 1) = l.take i ++ [l[i]] := List.take_succ_eq_append_getElem hlt
    have es : turned (turned s2 m q (mRun (ctl 0) ⟨[], []⟩ (l.take i))) m q (mApply (mRun (ctl 0) ⟨[], []⟩ (l.take i)) l[i] (ctl 0)).1 = turned s2 m q (mRun (ctl 0) ⟨[], []⟩ (l.take (i + 1))) := by
      rw [turned_turned h6.ne, et, mRun_append]; rfl
    have ew : IntKind.i64.wrap ((i : Int) + 1) = ((i + 1 : Nat) : Int) := by rw [wrap_small (by omega)]; simp
    have el : ∀ b : Bool, counts l[i] c.client = b → lastOf c.client (l.take (i + 1)) 0 = if b = true then max (lastOf c.client (l.take i) 0) l[i].seq else lastOf c.client (l.take i) 0 := by
      intro b hb'
      rw [et]
      unfold lastOf
      rw [List.foldl_append, List.foldl_cons, List.foldl_nil, hb']
    rw [es, ew]
    have no : counts l[i] c.client = false → X [V.int .i64 (lastOf c.client (l.take i) 0), V.int .i64 ((i + 1 : Nat) : Int)] (turned s2 m q (mRun (ctl 0) ⟨[], []⟩ (l.take (i + 1)))) := fun hb' => hX hlt _ _ ⟨by rw [el _ hb']; simp, rfl⟩
    refine cond_of (fun d1 => ?_) (fun d1 => ?_)
    rotate_left
    · exact no (by unfold counts; simp at d1; simp [d1])
    refine ⟨by omega, _, gi, _, _, _, _, _, _, _, _, rfl, ?_⟩
    refine (ac_valid l[i] _).use ⟨.refl _, _, rfl, ?_⟩
    refine cond_of (fun d2 => ?_) (fun d2 => ?_)
    rotate_left
    · exact no (by unfold counts; simp [d2])
    refine ⟨by omega, _, gi, _, _, _, _, _, _, _, _, rfl, ?_⟩
    refine cond_of (fun d3 => ?_) (fun d3 => ?_)
    rotate_left
    · exact no (by unfold counts; simp at d3; simp [d3])
    refine ⟨by omega, _, gi, _, _, _, _, _, _, _, _, rfl, ?_⟩
    have hc : counts l[i] c.client = true := by unfold counts; simp at d1 d3; simp [d1, d2, d3]
    exact hX hlt _ _ ⟨by rw [el _ hc]; simp, rfl⟩
  · have : i = l.length := by simp at c1; omega
    subst this
    have hse := hlast l.length (Nat.le_refl _)
    have hinv := inv l.length (Nat.le_refl _)
    rw [List.take_length] at *
    have hno : NoOld (mRun (ctl 0) ⟨[], []⟩ l) := NoOld.run (by decide) (fun e he => by simp at he) l
    generalize hM : mRun (ctl 0) ⟨[], []⟩ l = M at *
    generalize hL : lastOf c.client l 0 = L at *
    refine AC.mono (ac_sclone h7) ?_
    rintro _ s4 ⟨p', d', m', q', rfl, hle, h8, f1, f2, f3, f4⟩
    refine ⟨p', rfl, ?_⟩
    have g1 := h7.le hle
    have oth := Other.of h7 f1 f2 f3 f4
    have bak := Other.back h7 f1 f2 f3 f4
    refine (ac_sapply hf h8 (hinv.ok hb) o (ctl 0) .full (by omega) (by simp [ctl])).use ⟨_, _, _, _, _, rfl, ?_⟩
    have g2 := g1.other bak (mApply M o (ctl 0)).1
    have h9 := h8.turned (mApply M o (ctl 0)).1
    refine (ac_sapply hf g2 (hinv.ok hb) c (ctl 0) .full (by omega) (by simp [ctl])).use ⟨_, _, _, _, _, rfl, ?_⟩
    have g3 := g2.turned (mApply M c (ctl 0)).1
    have h10 := h9.other oth (mApply M c (ctl 0)).1
    have hinv2 := mApply_inv hinv (by omega) o (ctl 0) (by simp [ctl])
    have hinv3 := mApply_inv hinv (by omega) c (ctl 0) (by simp [ctl])
    refine (ac_sapply hf h10 (hinv2.ok (by omega)) c (ctl 0) .full (by omega) (by simp [ctl])).use ⟨_, _, _, _, _, rfl, ?_⟩
    have g4 := g3.other bak (mApply (mApply M o (ctl 0)).1 c (ctl 0)).1
    refine (ac_ssess hf g4 (hinv3.ok (by omega))).use ⟨_, _, rfl, ?_⟩
    have e1 : ((mApply M c (ctl 0)).2.err = 6 ↔ L > c.seq) := by rw [mApply_old hno (by decide) hop hok, hse]
    have e2 : ((mApply (mApply M o (ctl 0)).1 c (ctl 0)).2.err = 6 ↔ L > c.seq) := by
      rw [mApply_old (hno.apply o _ (by decide)) (by decide) hop hok, sseq_of_find (mApply_find (ctl 0) hoc), hse]
    have e3 : sseq (mApply M c (ctl 0)).1.lasts c.client = max L c.seq := by
      rw [mApply_seq, hse, if_pos]
      unfold counts
      simp [hop, hok]
    have e4 : foundIn c.client (ssorted (mApply M c (ctl 0)).1.lasts) 0 = max L c.seq := by
      have hx := foundIn_eq c.client _ hinv3.snap.nodup
      rw [sseq_eq (snap_eq hinv3).lasts, e3] at hx
      exact hx
    generalize hS : ssorted (mApply M c (ctl 0)).1.lasts = S at *
    have hSl : S.length ≤ 4294967295 := by
      rw [← hS, (ssorted_perm _).length_eq]
      exact (hinv3.ok (by omega)).len
    refine lfp_up S.length (fun i vs s' => vs = [V.int .i64 (foundIn c.client (S.take i) 0), V.int .i64 i]) ?_ rfl
    rintro j _ s9 hj rfl Y hY
    refine ⟨_, j, rfl, ?_⟩
    simp only [List.length_map]
    refine cond_of (fun d1 => ?_) (fun d1 => ?_)
    · have hlt : j < S.length := by simpa using d1
      have gj : (S.map Sess.enc)[(j : Int).toNat]? = some (Sess.enc S[j]) := by simp [hlt]
      have et : S.take (j + 1) = S.take j ++ [S[j]] := List.take_succ_eq_append_getElem hlt
      have ef : foundIn c.client (S.take (j + 1)) 0 = if S[j].client = c.client then S[j].seq else foundIn c.client (S.take j) 0 := by
        rw [et]
        unfold foundIn
        rw [List.foldl_append, List.foldl_cons, List.foldl_nil]
      have ew : IntKind.i64.wrap ((j : Int) + 1) = ((j + 1 : Nat) : Int) := by rw [wrap_small (by omega)]; simp
      rw [ew]
      refine ⟨by omega, _, gj, _, _, _, _, _, _, _, rfl, ?_⟩
      refine cond_of (fun d2 => ?_) (fun d2 => ?_)
      · refine ⟨by omega, _, gj, _, _, _, _, _, _, _, rfl, ?_⟩
        exact hY hlt _ _ (by rw [ef, if_pos (by simpa using d2)])
      · exact hY hlt _ _ (by rw [ef, if_neg (by simpa using d2)])
    · have : j = S.length := by simp at d1; omega
      subst this
      rw [List.take_length, e4]
      have b1 : ((mApply M c (ctl 0)).2.err == 6) = decide (L > c.seq) := by
        rw [Bool.eq_iff_iff]; simpa using e1
      have b2 : ((mApply (mApply M o (ctl 0)).1 c (ctl 0)).2.err == 6) = decide (L > c.seq) := by
        rw [Bool.eq_iff_iff]; simpa using e2
      rw [b1, b2]
      simp

theorem ac_lreads (hf : Fwd.on = false) (l : List Cmd) (k : Cap) (t : Bytes) (l2 : List Cmd) (k2 : Cap) (s : Store) : AC Tryz.prog n_lreads [.sl (l.map Cmd.enc) k, .str (bs t), .sl (l2.map Cmd.enc) k2] s fun r _ => r = .bool true := by
  refine AC_of_tfun (H := h_lreads) (S := s_lreads) (K := fun r _ => r = .bool true) mixed fn_lreads ca_lreads ok_lreads ?_ fun r s' h => ⟨r, s', .refl _, .refl _, h⟩
  rw [e_lreads]
  refine AC.mono (ac_works hf s) ?_
  rintro _ s1 rfl
  refine ⟨true, rfl, ?_⟩
  simp only [Bool.not_true, cond_false, cond_true]
  refine (ac_over l k s1).use ⟨_, rfl, ?_⟩
  refine cond_of (fun h1 => ?_) (fun h1 => trivial)
  refine (ac_over l2 k2 s1).use ⟨_, rfl, ?_⟩
  refine cond_of (fun h2 => ?_) (fun h2 => trivial)
  have ol := over_len (by simpa using h1 : over l = false)
  have ol2 := over_len (by simpa using h2 : over l2 = false)
  have hpl : ∀ x ∈ l, x.path.length ≤ 4294967296 := fun x hx => by have := (ol.2 x hx).1; omega
  have hpl2 : ∀ x ∈ l2, x.path.length ≤ 4294967296 := fun x hx => by have := (ol2.2 x hx).1; omega
  refine cond_of (fun h3 => trivial) (fun h3 => ?_)
  have ht : t.length ≤ 300 := by rw [bs_size] at h3; simp at h3; omega
  refine AC.mono (ac_snew s1) ?_
  rintro _ s2 ⟨p, d, m, q, rfl, _, h4, _, _, _, _⟩
  refine ⟨p, rfl, ?_⟩
  let F := fun l : List Cmd => l.filter fun c => c.client != 77
  have hF : ∀ l : List Cmd, (F l).length ≤ l.length := fun l => List.length_filter_le _ _
  have hFt : ∀ (l : List Cmd) (i : Nat) (h : i < l.length), F (l.take (i + 1)) = F (l.take i) ++ (if l[i].client != 77 then [l[i]] else []) := by
    intro l i h
    simp only [F]
    rw [List.take_succ_eq_append_getElem h, List.filter_append]
    congr 1
    by_cases hc : (l[i].client != 77) = true <;> simp [hc]
  have hFc : ∀ (l : List Cmd), ∀ c ∈ F l, c.client ≠ 77 := fun l c hc => by simpa using (List.mem_filter.1 hc).2
  refine lfp_up l.length (fun i vs s' => vs = [V.int .i64 i] ∧ turned s2 m q (mRun (ctl 0) ⟨[], []⟩ (F (l.take i))) = s') ?_ ⟨rfl, by simp [F, mRun, turned_same h4]⟩
  rintro i _ _ hil ⟨rfl, rfl⟩ X hX
  refine ⟨i, rfl, ?_⟩
  have hfl := hF (l.take i)
  have htl : (l.take i).length ≤ 60 := by simp; omega
  have hinv := mRun_inv .nil (ctl 0) rfl (F (l.take i)) (by omega)
  have h5 := h4.turned (mRun (ctl 0) ⟨[], []⟩ (F (l.take i)))
  simp only [List.length_map]
  refine cond_of (fun c1 => ?_) (fun c1 => ?_)
  · have hlt : i < l.length := by simpa using c1
    have gi : (l.map Cmd.enc)[(i : Int).toNat]? = some (Cmd.enc l[i]) := by simp [hlt]
    have ew : IntKind.i64.wrap ((i : Int) + 1) = ((i + 1 : Nat) : Int) := by rw [wrap_small (by omega)]; simp
    rw [ew]
    refine ⟨by omega, _, gi, _, _, _, _, _, _, _, _, rfl, ?_⟩
    refine cond_of (fun d1 => ?_) (fun d1 => ?_)
    · refine ⟨by omega, _, gi, _, _, _, _, _, _, _, _, rfl, ?_⟩
      refine (ac_sapply hf h5 (hinv.ok (by omega)) l[i] (ctl 0) .full (hpl _ (List.getElem_mem _)) (by simp [ctl])).use ⟨_, _, _, _, _, rfl, ?_⟩
      refine hX hlt _ _ ⟨by simp, ?_⟩
      rw [hFt l i hlt, if_pos d1, mRun_append, turned_turned h4.ne]
      rfl
    · refine hX hlt _ _ ⟨by simp, ?_⟩
      rw [hFt l i hlt, if_neg (by simp [d1]), List.append_nil]
  have : i = l.length := by simp at c1; omega
  subst this
  rw [List.take_length] at *
  have hnone : sfind (mRun (ctl 0) ⟨[], []⟩ (F l)).lasts 77 = none := by rw [mRun_find _ _ _ _ (hFc l)]; rfl
  generalize hM : mRun (ctl 0) ⟨[], []⟩ (F l) = M at *
  generalize hN : (F l).length = N at *
  have hok := hinv.ok (by omega)
  have hok3 : ∀ {K : Nat} {M' : Mach}, MInv K M' → K ≤ 200 → MachOk M' := fun h hk => h.ok (by omega)
  refine (ac_spaths hf h5 hok).use ⟨_, _, rfl, ?_⟩
  refine (ac_sapply hf h5 hok (getOf t) (ctl 0) .full (by show t.length ≤ _; omega) (by simp [ctl])).use ⟨_, _, _, _, _, rfl, ?_⟩
  have hinv2 := mApply_inv hinv (by omega) (getOf t) (ctl 0) (by simp [ctl])
  rw [turned_turned h4.ne]
  rw [get_new hnone] at hinv2 ⊢
  have h6 := h4.turned ⟨M.dir, sput M.lasts ⟨77, 1, (dApply M.dir (getOf t)).2⟩⟩
  refine (ac_spaths hf h6 (hinv2.ok (by omega))).use ⟨_, _, rfl, ?_⟩
  refine (ac_row _ _ .any .any _ hok.dlen).use ⟨_, rfl, ?_⟩
  rw [decide_eq_true rfl]
  simp only [Bool.not_true, cond_false]
  have hEl : (dsorted M.dir).length ≤ 4294967295 := by rw [(dsorted_perm _).length_eq]; exact hok.dir.len
  have hEm : ∀ e ∈ dsorted M.dir, e ∈ M.dir := fun e he => (dsorted_perm _).mem_iff.1 he
  generalize hE : dsorted M.dir = E at *
  refine lfp_up E.length (fun i vs s' => vs = [V.int .i64 i] ∧ turned s2 m q ⟨M.dir, sput M.lasts ⟨77, 1, (dApply M.dir (getOf t)).2⟩⟩ = s') ?_ ⟨rfl, rfl⟩
  rintro i _ _ hi2 ⟨rfl, rfl⟩ Y hY
  refine ⟨i, rfl, ?_⟩
  simp only [List.length_map]
  refine cond_of (fun c2 => ?_) (fun c2 => ?_)
  · have hlt : i < E.length := by simpa using c2
    have gi : (E.map Entry.enc)[(i : Int).toNat]? = some (Entry.enc E[i]) := by simp [hlt]
    have ew : IntKind.i64.wrap ((i : Int) + 1) = ((i + 1 : Nat) : Int) := by rw [wrap_small (by omega)]; simp
    rw [ew]
    refine ⟨by omega, _, gi, _, _, _, rfl, ?_⟩
    refine cond_of (fun d1 => ?_) (fun d1 => ?_)
    · have hpe : E[i].path = t := by simpa [bs_toList] using d1
      have hg := get_is hinv.dir (hEm _ (List.getElem_mem hlt))
      rw [hpe] at hg
      have e1 : (!(dApply M.dir (getOf t)).2.err != 0) = true := by rw [hg]; rfl
      have e2 : (!!((bs (dApply M.dir (getOf t)).2.value).toList == (bs E[i].value).toList)) = true := by rw [hg]; simp
      have e3 : ((dApply M.dir (getOf t)).2.version != E[i].version) = false := by rw [hg]; simp
      rw [e1, cond_true]
      refine ⟨by omega, _, gi, _, _, _, rfl, ?_⟩
      rw [e2, cond_true]
      refine ⟨by omega, _, gi, _, _, _, rfl, ?_⟩
      rw [e3, cond_false]
      exact hY hlt _ _ ⟨rfl, rfl⟩
    · exact hY hlt _ _ ⟨rfl, rfl⟩
  generalize hA : (dApply M.dir (getOf t)).2 = a at *
  generalize hM2 : (⟨M.dir, sput M.lasts ⟨77, 1, a⟩⟩ : Mach) = M2 at *
  have hfd : sfind M2.lasts 77 = some ⟨77, 1, a⟩ := by rw [← hM2]; simp only; rw [sfind_put, if_pos rfl]
  refine lfp_up l2.length (fun i vs s' => vs = [V.int .i64 i] ∧ turned s2 m q (mRun (ctl 0) M2 (F (l2.take i))) = s') ?_ ⟨rfl, by simp [F, mRun]⟩
  rintro j _ _ hj ⟨rfl, rfl⟩ Z hZ
  refine ⟨j, rfl, ?_⟩
  have hfl2 := hF (l2.take j)
  have htl2 : (l2.take j).length ≤ 60 := by simp; omega
  have hinv3 := mRun_inv hinv2 (ctl 0) rfl (F (l2.take j)) (by omega)
  have h7 := h4.turned (mRun (ctl 0) M2 (F (l2.take j)))
  try simp only [List.length_map]
  refine cond_of (fun c3 => ?_) (fun c3 => ?_)
  · have hlt : j < l2.length := by simpa using c3
    have gi : (l2.map Cmd.enc)[(j : Int).toNat]? = some (Cmd.enc l2[j]) := by simp [hlt]
    have ew : IntKind.i64.wrap ((j : Int) + 1) = ((j + 1 : Nat) : Int) := by rw [wrap_small (by omega)]; simp
    rw [ew]
    refine ⟨by omega, _, gi, _, _, _, _, _, _, _, _, rfl, ?_⟩
    refine cond_of (fun d1 => ?_) (fun d1 => ?_)
    · refine ⟨by omega, _, gi, _, _, _, _, _, _, _, _, rfl, ?_⟩
      refine (ac_sapply hf h7 (hinv3.ok (by omega)) l2[j] (ctl 0) .full (hpl2 _ (List.getElem_mem _)) (by simp [ctl])).use ⟨_, _, _, _, _, rfl, ?_⟩
      refine hZ hlt _ _ ⟨by simp, ?_⟩
      rw [hFt l2 j hlt, if_pos d1, mRun_append, turned_turned h4.ne]
      rfl
    · refine hZ hlt _ _ ⟨by simp, ?_⟩
      rw [hFt l2 j hlt, if_neg (by simp [d1]), List.append_nil]
  have : j = l2.length := by simp at c3; omega
  subst this
  rw [List.take_length] at *
  refine (ac_sapply hf h7 (hinv3.ok (by omega)) (getOf t) (ctl 0) .full (by show t.length ≤ _; omega) (by simp [ctl])).use ⟨_, _, _, _, _, rfl, ?_⟩
  have hfin : sfind (mRun (ctl 0) M2 (F l2)).lasts 77 = some ⟨77, 1, a⟩ := by rw [mRun_find _ _ _ _ (hFc l2)]; exact hfd
  rw [get_again hfin]
  have han : a.names.length ≤ 4294967296 := by rw [← hA]; exact dApply_names hok.dir.len _
  refine (ac_same a a .any .any _ han).use ?_
  exact ⟨_, rfl, by simp⟩

end Go.Proofs.YtdeondiigpidnaaGreat.Ab
end

section
set_option linter.unusedVariables false
set_option linter.unusedSimpArgs false
/- What the arguments of the laws of sessions read as. -/
namespace Go.Proofs.YtdeondiigpidnaaGreat
open Go Go.RowKit Go.ChangeShapes Go.WideShapes Ab
set_option linter.unusedVariables false
set_option maxRecDepth 100000

theorem own9 : ownKnob Tryz.prog.godebug = none := by kernel_rfl
theorem lo9 : laidOutB Tryz.prog = true := by kernel_rfl
theorem ok9c : okV Tryz.prog 6 34 = true ∧ Tryz.prog.readableRec 34 = true ∧ 34 < Tryz.prog.types.size := ⟨by kernel_rfl, by kernel_rfl, of_decide_eq_true (by kernel_rfl)⟩
theorem ok9l : okV Tryz.prog 6 22 = true ∧ Tryz.prog.readableRec 22 = true ∧ 22 < Tryz.prog.types.size := ⟨by kernel_rfl, by kernel_rfl, of_decide_eq_true (by kernel_rfl)⟩
theorem ok9s : okV Tryz.prog 6 9 = true ∧ Tryz.prog.readableRec 9 = true ∧ 9 < Tryz.prog.types.size := ⟨by kernel_rfl, by kernel_rfl, of_decide_eq_true (by kernel_rfl)⟩
theorem cmd9 {v : V} (h : hasV Tryz.prog 6 34 v) : ∃ c : Cmd, v = c.enc :=
  cmd_of (i := 3) (o := 32) (s := 9) (by kernel_rfl) (by kernel_rfl) (by kernel_rfl) (by kernel_rfl) (by kernel_rfl) h
theorem cmds9 {v : V} (h : hasV Tryz.prog 6 22 v) : ∃ l : List Cmd, v = .sl (l.map Cmd.enc) .any :=
  cmds_of (e := 34) (i := 3) (o := 32) (s := 9) (by kernel_rfl) (by kernel_rfl) (by kernel_rfl) (by kernel_rfl) (by kernel_rfl) (by kernel_rfl) h

theorem str9 {v : V} (h : hasV Tryz.prog 6 9 v) : ∃ s : Bytes, v = .str (bs s) := hasV_str (by kernel_rfl) h

theorem len1 {α : Type} : ∀ {l : List α}, l.length = 1 → ∃ a, l = [a]
  | [a], _ => ⟨a, rfl⟩
theorem len2 {α : Type} : ∀ {l : List α}, l.length = 2 → ∃ a b, l = [a, b]
  | [a, b], _ => ⟨a, b, rfl⟩
theorem len3 {α : Type} : ∀ {l : List α}, l.length = 3 → ∃ a b c, l = [a, b, c]
  | [a, b, c], _ => ⟨a, b, c, rfl⟩
theorem len4 {α : Type} : ∀ {l : List α}, l.length = 4 → ∃ a b c d, l = [a, b, c, d]
  | [a, b, c, d], _ => ⟨a, b, c, d, rfl⟩

end Go.Proofs.YtdeondiigpidnaaGreat
end

section
set_option linter.unusedVariables false
set_option linter.unusedSimpArgs false
/- The library's contracts at this program's numbers (written by the kit's tool). -/
namespace Go.Proofs
open Go.Shelf
def Tryz.growC_ren : Go.Shelf.Ren := ⟨fun | 4 => 94 | n => n, fun | 22 => 95 | 25 => 116 | 3 => 3 | 4 => 4 | 9 => 9 | 20 => 20 | 0 => 0 | n => n, fun | n => n⟩
theorem Tryz.growC : Go.Proofs.Lays8.n4 Tryz.prog Tryz.growC_ren where
  mixed := by kernel_rfl
  f4 := ⟨ "slices.Grow[[]syndic/touch.Cell,syndic/touch.Cell]", by decide, Tryz.func94.trans (congrArg some (by kernel_rfl))⟩
  t0 := Tryz.underlying0
  a0 := Tryz.isAgg0
  z0 := Tryz.sizeOf0
  v0 := Tryz.zeroValue0
  t3 := Tryz.underlying3
  a3 := Tryz.isAgg3
  z3 := Tryz.sizeOf3
  v3 := Tryz.zeroValue3
  t4 := Tryz.underlying4
  a4 := Tryz.isAgg4
  z4 := Tryz.sizeOf4
  v4 := Tryz.zeroValue4
  t9 := Tryz.underlying9
  a9 := Tryz.isAgg9
  z9 := Tryz.sizeOf9
  v9 := Tryz.zeroValue9
  t20 := Tryz.underlying20
  a20 := Tryz.isAgg20
  z20 := Tryz.sizeOf20
  v20 := Tryz.zeroValue20
  t22 := Tryz.underlying95
  a22 := Tryz.isAgg95
  z22 := Tryz.sizeOf95
  v22 := Tryz.zeroValue95
end Go.Proofs
end

section
set_option linter.unusedVariables false
set_option linter.unusedSimpArgs false
/- Which commands matter to each other, in plain Lean. -/
namespace Go.Proofs.YtdeondiigpidnaaGreat.Ab
open Go
set_option linter.unusedVariables false
set_option linter.unusedSimpArgs false

structure Cell where
  path : Bytes
  what : Int
  deriving DecidableEq
def Cell.enc (c : Cell) : V := .agg [.str (bs c.path), .int .u8 c.what]
def ofP (p : Bytes) (l : List Int) : List Cell := l.map fun n => ⟨p, n⟩
structure Use where
  reads : List Cell
  writes : List Cell
def Use.enc (u : Use) (k k2 : Cap) : V := .agg [.sl (u.reads.map Cell.enc) k, .sl (u.writes.map Cell.enc) k2]
def usesP (c : Cmd) : Use :=
  if validP c.path = false then ⟨[], []⟩
  else if c.op = 4 then ⟨ofP c.path [101, 118], []⟩
  else if c.op = 5 then ⟨ofP c.path [101, 107], []⟩
  else if c.op = 1 ∧ parentP c.path = [] then ⟨ofP c.path [101], []⟩
  else if parentP c.path = [] then ⟨[], []⟩
  else if c.op = 1 then ⟨ofP (parentP c.path) [101] ++ ofP c.path [101], ofP c.path [101, 118] ++ ofP (parentP c.path) [107]⟩
  else if c.op = 2 then ⟨ofP c.path [101, 107], ofP c.path [101, 118] ++ ofP (parentP c.path) [107]⟩
  else if c.op = 3 then ⟨ofP c.path [101], ofP c.path [118]⟩
  else if c.op = 6 then ⟨ofP c.path [101, 118], ofP c.path [118]⟩
  else ⟨[], []⟩
def spoilsP (u x : Use) : Bool := u.writes.any fun c => (x.reads ++ x.writes).contains c
def pathsP (a b : Cmd) : Bool := spoilsP (usesP a) (usesP b) || spoilsP (usesP b) (usesP a)
def bothP (a b : Cmd) : Bool :=
  if a.op = 0 ∨ b.op = 0 then false
  else if a.control = true ∨ b.control = true ∨ a.client = b.client then true
  else pathsP a b

end Go.Proofs.YtdeondiigpidnaaGreat.Ab
end

section
set_option linter.unusedVariables false
set_option linter.unusedSimpArgs false
/- Normal forms of functions, printed by a program of mine; each is checked by the kernel. -/
namespace Go.Proofs.YtdeondiigpidnaaGreat.Ab
open Go Go.Proofs
set_option maxRecDepth 100000
set_option linter.unusedVariables false
set_option linter.unusedSectionVars false
variable [Fwd]
abbrev n_growc : Go.FuncId := 94
theorem ca_growc : callable Tryz.prog 94 = true := by kernel_rfl
abbrev n_tof : Go.FuncId := 69
noncomputable def h_tof : Hints := { n := 22, esc := fun _ => false, lr := fun _ => [], bx := fun _ => false, lc := fun _ => false, quiet := fun _ => false, order := fun _ => none, join := fun _ => none, carry := fun i => match i with | 3 => [5, 10] | _ => [] }
noncomputable def s_tof : Shapes := { carry := fun i => match i with | 3 => [shA Tryz.prog 95, shA Tryz.prog 3] | _ => [], res := fun _ => none }
theorem e_tof (p : Bytes) (l : List Int) (k : Cap) (s : Store) (K : V → Store → Prop) : tfun Tryz.prog h_tof s_tof Tryz.f69 [.str (bs p), .sl (l.map fun n => V.int .u8 n) k] s K = ( lfp (fun s0 l1 s2 => ∃ l3 c4 n5, l1 = [V.sl l3 c4, V.int IntKind.i64 n5] ∧ bif decide (n5 < (↑(List.map (fun n => V.int IntKind.u8 n) l).length : Int)) then 0 ≤ n5 ∧ ∃ v6, (List.map (fun n => V.int IntKind.u8 n) l)[n5.toNat]? = some v6 ∧ ∃ n7, v6 = V.int IntKind.u8 n7 ∧ tapp 2 l3 c4 [V.agg [V.str (bs p), V.int IntKind.u8 n7]] s2 fun l8 c9 s10 => s0 [V.sl l8 c9, V.int IntKind.i64 (IntKind.i64.wrap (n5 + 1))] s10 else K (V.sl l3 c4) s2) [V.sl [] Cap.full, V.int IntKind.i64 0] s) := by kernel_rfl
theorem ok_tof : okFn h_tof Tryz.f69 = true := by kernel_rfl
theorem fn_tof : Tryz.prog.funcs[69]? = some Tryz.f69 := by kernel_rfl
theorem ca_tof : callable Tryz.prog 69 = true := by kernel_rfl
abbrev n_uses : Go.FuncId := 50
noncomputable def h_uses : Hints := { n := 100, esc := fun _ => false, lr := fun i => match i with | 1 => [6, 12, 31, 44, 63, 78, 89] | _ => [], bx := fun i => mem i [1, 2], lc := fun _ => false, quiet := fun _ => false, order := fun _ => none, join := fun _ => none, carry := fun _ => [] }
noncomputable def s_uses : Shapes := { carry := fun _ => [], res := fun _ => none }
theorem e_uses (c : Cmd) (s : Store) (K : V → Store → Prop) : tfun Tryz.prog h_uses s_uses Tryz.f50 [c.enc] s K = ( AC Tryz.prog 57 [V.str (bs c.path)] s fun v0 s1 => ∃ b2, v0 = V.bool b2 ∧ bif !b2 then K (V.agg [V.sl [] Cap.full, V.sl [] Cap.full]) s1 else bif c.op == 4 then AC Tryz.prog 69 [V.str (bs c.path), V.sl [V.int IntKind.u8 101, V.int IntKind.u8 118] Cap.full] s1 fun v3 s4 => ∃ l5 c6, v3 = V.sl l5 c6 ∧ K (V.agg [V.sl l5 c6, V.sl [] Cap.full]) s4 else bif c.op == 5 then AC Tryz.prog 69 [V.str (bs c.path), V.sl [V.int IntKind.u8 101, V.int IntKind.u8 107] Cap.full] s1 fun v7 s8 => ∃ l9 c10, v7 = V.sl l9 c10 ∧ K (V.agg [V.sl l9 c10, V.sl [] Cap.full]) s8 else AC Tryz.prog 41 [V.str (bs c.path)] s1 fun v11 s12 => ∃ t13, v11 = V.str t13 ∧ bif c.op == 1 then bif t13.toList == (ByteArray.mk #[]).toList then AC Tryz.prog 69 [V.str (bs c.path), V.sl [V.int IntKind.u8 101] Cap.full] s12 fun v14 s15 => ∃ l16 c17, v14 = V.sl l16 c17 ∧ K (V.agg [V.sl l16 c17, V.sl [] Cap.full]) s15 else bif t13.toList == (ByteArray.mk #[]).toList then K (V.agg [V.sl [] Cap.full, V.sl [] Cap.full]) s12 else bif c.op == 1 then AC Tryz.prog 69 [V.str t13, V.sl [V.int IntKind.u8 101] Cap.full] s12 fun v18 s19 => ∃ l20 c21, v18 = V.sl l20 c21 ∧ AC Tryz.prog 69 [V.str (bs c.path), V.sl [V.int IntKind.u8 101] Cap.full] s19 fun v22 s23 => ∃ l24 c25, v22 = V.sl l24 c25 ∧ tapp 2 l20 c21 l24 s23 fun l26 c27 s28 => AC Tryz.prog 69 [V.str (bs c.path), V.sl [V.int IntKind.u8 101, V.int IntKind.u8 118] Cap.full] s28 fun v29 s30 => ∃ l31 c32, v29 = V.sl l31 c32 ∧ AC Tryz.prog 69 [V.str t13, V.sl [V.int IntKind.u8 107] Cap.full] s30 fun v33 s34 => ∃ l35 c36, v33 = V.sl l35 c36 ∧ tapp 2 l31 c32 l35 s34 fun l37 c38 s39 => K (V.agg [V.sl l26 c27, V.sl l37 c38]) s39 else bif c.op == 2 then AC Tryz.prog 69 [V.str (bs c.path), V.sl [V.int IntKind.u8 101, V.int IntKind.u8 107] Cap.full] s12 fun v40 s41 => ∃ l42 c43, v40 = V.sl l42 c43 ∧ AC Tryz.prog 69 [V.str (bs c.path), V.sl [V.int IntKind.u8 101, V.int IntKind.u8 118] Cap.full] s41 fun v44 s45 => ∃ l46 c47, v44 = V.sl l46 c47 ∧ AC Tryz.prog 69 [V.str t13, V.sl [V.int IntKind.u8 107] Cap.full] s45 fun v48 s49 => ∃ l50 c51, v48 = V.sl l50 c51 ∧ tapp 2 l46 c47 l50 s49 fun l52 c53 s54 => K (V.agg [V.sl l42 c43, V.sl l52 c53]) s54 else bif c.op == 3 then AC Tryz.prog 69 [V.str (bs c.path), V.sl [V.int IntKind.u8 101] Cap.full] s12 fun v55 s56 => ∃ l57 c58, v55 = V.sl l57 c58 ∧ AC Tryz.prog 69 [V.str (bs c.path), V.sl [V.int IntKind.u8 118] Cap.full] s56 fun v59 s60 => ∃ l61 c62, v59 = V.sl l61 c62 ∧ K (V.agg [V.sl l57 c58, V.sl l61 c62]) s60 else bif c.op == 6 then AC Tryz.prog 69 [V.str (bs c.path), V.sl [V.int IntKind.u8 101, V.int IntKind.u8 118] Cap.full] s12 fun v63 s64 => ∃ l65 c66, v63 = V.sl l65 c66 ∧ AC Tryz.prog 69 [V.str (bs c.path), V.sl [V.int IntKind.u8 118] Cap.full] s64 fun v67 s68 => ∃ l69 c70, v67 = V.sl l69 c70 ∧ K (V.agg [V.sl l65 c66, V.sl l69 c70]) s68 else K (V.agg [V.sl [] Cap.full, V.sl [] Cap.full]) s12 else bif t13.toList == (ByteArray.mk #[]).toList then K (V.agg [V.sl [] Cap.full, V.sl [] Cap.full]) s12 else bif c.op == 1 then AC Tryz.prog 69 [V.str t13, V.sl [V.int IntKind.u8 101] Cap.full] s12 fun v71 s72 => ∃ l73 c74, v71 = V.sl l73 c74 ∧ AC Tryz.prog 69 [V.str (bs c.path), V.sl [V.int IntKind.u8 101] Cap.full] s72 fun v75 s76 => ∃ l77 c78, v75 = V.sl l77 c78 ∧ tapp 2 l73 c74 l77 s76 fun l79 c80 s81 => AC Tryz.prog 69 [V.str (bs c.path), V.sl [V.int IntKind.u8 101, V.int IntKind.u8 118] Cap.full] s81 fun v82 s83 => ∃ l84 c85, v82 = V.sl l84 c85 ∧ AC Tryz.prog 69 [V.str t13, V.sl [V.int IntKind.u8 107] Cap.full] s83 fun v86 s87 => ∃ l88 c89, v86 = V.sl l88 c89 ∧ tapp 2 l84 c85 l88 s87 fun l90 c91 s92 => K (V.agg [V.sl l79 c80, V.sl l90 c91]) s92 else bif c.op == 2 then AC Tryz.prog 69 [V.str (bs c.path), V.sl [V.int IntKind.u8 101, V.int IntKind.u8 107] Cap.full] s12 fun v93 s94 => ∃ l95 c96, v93 = V.sl l95 c96 ∧ AC Tryz.prog 69 [V.str (bs c.path), V.sl [V.int IntKind.u8 101, V.int IntKind.u8 118] Cap.full] s94 fun v97 s98 => ∃ l99 c100, v97 = V.sl l99 c100 ∧ AC Tryz.prog 69 [V.str t13, V.sl [V.int IntKind.u8 107] Cap.full] s98 fun v101 s102 => ∃ l103 c104, v101 = V.sl l103 c104 ∧ tapp 2 l99 c100 l103 s102 fun l105 c106 s107 => K (V.agg [V.sl l95 c96, V.sl l105 c106]) s107 else bif c.op == 3 then AC Tryz.prog 69 [V.str (bs c.path), V.sl [V.int IntKind.u8 101] Cap.full] s12 fun v108 s109 => ∃ l110 c111, v108 = V.sl l110 c111 ∧ AC Tryz.prog 69 [V.str (bs c.path), V.sl [V.int IntKind.u8 118] Cap.full] s109 fun v112 s113 => ∃ l114 c115, v112 = V.sl l114 c115 ∧ K (V.agg [V.sl l110 c111, V.sl l114 c115]) s113 else bif c.op == 6 then AC Tryz.prog 69 [V.str (bs c.path), V.sl [V.int IntKind.u8 101, V.int IntKind.u8 118] Cap.full] s12 fun v116 s117 => ∃ l118 c119, v116 = V.sl l118 c119 ∧ AC Tryz.prog 69 [V.str (bs c.path), V.sl [V.int IntKind.u8 118] Cap.full] s117 fun v120 s121 => ∃ l122 c123, v120 = V.sl l122 c123 ∧ K (V.agg [V.sl l118 c119, V.sl l122 c123]) s121 else K (V.agg [V.sl [] Cap.full, V.sl [] Cap.full]) s12) := by kernel_rfl
theorem ok_uses : okFn h_uses Tryz.f50 = true := by kernel_rfl
theorem fn_uses : Tryz.prog.funcs[50]? = some Tryz.f50 := by kernel_rfl
theorem ca_uses : callable Tryz.prog 50 = true := by kernel_rfl
abbrev n_spoils : Go.FuncId := 51
noncomputable def h_spoils : Hints := { n := 27, esc := fun i => mem i [5], lr := fun i => match i with | 2 => [23] | 3 => [9, 11] | _ => [], bx := fun i => mem i [2, 3, 7], lc := fun _ => false, quiet := fun _ => false, order := fun _ => none, join := fun _ => none, carry := fun i => match i with | 3 => [16] | _ => [] }
noncomputable def s_spoils : Shapes := { carry := fun i => match i with | 3 => [shA Tryz.prog 3] | _ => [], res := fun _ => none }
theorem e_spoils (u x : Use) (k1 k2 k3 k4 : Cap) (s : Store) (K : V → Store → Prop) : tfun Tryz.prog h_spoils s_spoils Tryz.f51 [u.enc k1 k2, x.enc k3 k4] s K = ( ∀ (i0 : Nat), s i0 = none → ∀ (i1 : Nat), s.upd i0 (Obj.map []) i1 = none → ∃ o2, putO ((s.upd i0 (Obj.map [])).upd i1 (Obj.cells [V.nilmap])) i1 0 1 [V.map i0] o2 ∧ AC Tryz.prog 70 [V.sl [V.sl (List.map Cell.enc x.reads) k3, V.sl (List.map Cell.enc x.writes) k4] Cap.full] (((s.upd i0 (Obj.map [])).upd i1 (Obj.cells [V.nilmap])).upd i1 o2) fun v3 s4 => ∃ l5 c6, v3 = V.sl l5 c6 ∧ lfp (fun s7 l8 s9 => ∃ n10, l8 = [V.int IntKind.i64 n10] ∧ bif decide (n10 < (↑l5.length : Int)) then 0 ≤ n10 ∧ ∃ v11, l5[n10.toNat]? = some v11 ∧ ∃ t12 n13, v11 = V.agg [V.str t12, V.int IntKind.u8 n13] ∧ ∃ o14 l15 v16, s9 i1 = some o14 ∧ objCells o14 = some l15 ∧ rd TK.sc l15 0 = some v16 ∧ ∃ i17, v16 = V.map i17 ∧ ∃ l18, s9 i17 = some (Obj.map l18) ∧ (∀ (x19 : V × V), x19 ∈ l18 → hasKK (KK.ag [SK.str, SK.int IntKind.u8]) x19.fst = true) ∧ s7 [V.int IntKind.i64 (IntKind.i64.wrap (n10 + 1))] (s9.upd i17 (Obj.map (mput l18 (V.agg [V.str t12, V.int IntKind.u8 n13]) (V.bool true)))) else AC Tryz.prog 71 [V.sl (List.map Cell.enc u.writes) k2, V.fn (Fn.func 72) [] [V.ptr i1 0]] s9 fun v20 s21 => ∃ b22, v20 = V.bool b22 ∧ K (V.bool b22) s21) [V.int IntKind.i64 0] s4) := by kernel_rfl
theorem ok_spoils : okFn h_spoils Tryz.f51 = true := by kernel_rfl
theorem fn_spoils : Tryz.prog.funcs[51]? = some Tryz.f51 := by kernel_rfl
theorem ca_spoils : callable Tryz.prog 51 = true := by kernel_rfl
abbrev n_spoilsf : Go.FuncId := 72
noncomputable def h_spoilsf : Hints := { n := 7, esc := fun _ => false, lr := fun _ => [], bx := fun i => mem i [2], lc := fun _ => false, quiet := fun _ => false, order := fun _ => none, join := fun _ => none, carry := fun _ => [] }
noncomputable def s_spoilsf : Shapes := { carry := fun _ => [], res := fun _ => none }
theorem e_spoilsf (i : Nat) (c : Cell) (s : Store) (K : V → Store → Prop) : tfun Tryz.prog h_spoilsf s_spoilsf Tryz.f72 [c.enc, .ptr i 0] s K = ( ∃ o0 l1 v2, s i = some o0 ∧ objCells o0 = some l1 ∧ rd TK.sc l1 0 = some v2 ∧ ∃ i3, v2 = V.map i3 ∧ ∃ l4, (s i3 = some (Obj.map l4) ∨ s i3 = some (Obj.mapr l4)) ∧ (∀ (x5 : V × V), x5 ∈ l4 → hasKK (KK.ag [SK.str, SK.int IntKind.u8]) x5.fst = true) ∧ ∃ v6, (mlook l4 (V.agg [V.str (bs c.path), V.int IntKind.u8 c.what])).getD (V.bool false) = v6 ∧ ∃ b7, v6 = V.bool b7 ∧ K (V.bool b7) s) := by kernel_rfl
theorem ok_spoilsf : okFn h_spoilsf Tryz.f72 = true := by kernel_rfl
theorem fn_spoilsf : Tryz.prog.funcs[72]? = some Tryz.f72 := by kernel_rfl
theorem ca_spoilsf : callable Tryz.prog 72 = true := by kernel_rfl
abbrev n_concat : Go.FuncId := 70
noncomputable def h_concat : Hints := { n := 36, esc := fun _ => false, lr := fun _ => [], bx := fun _ => false, lc := fun _ => false, quiet := fun _ => false, order := fun _ => none, join := fun _ => none, carry := fun i => match i with | 3 => [3, 11] | 11 => [6, 27] | _ => [] }
noncomputable def s_concat : Shapes := { carry := fun i => match i with | 3 => [shA Tryz.prog 3, shA Tryz.prog 3] | 11 => [shA Tryz.prog 95, shA Tryz.prog 3] | _ => [], res := fun _ => none }
theorem e_concat (a b : List Cell) (k1 k2 : Cap) (s : Store) (K : V → Store → Prop) : tfun Tryz.prog h_concat s_concat Tryz.f70 [.sl [.sl (a.map Cell.enc) k1, .sl (b.map Cell.enc) k2] .full] s K = ( lfp (fun s0 l1 s2 => ∃ n3 n4, l1 = [V.int IntKind.i64 n3, V.int IntKind.i64 n4] ∧ bif decide (n4 < (↑[V.sl (List.map Cell.enc a) k1, V.sl (List.map Cell.enc b) k2].length : Int)) then 0 ≤ n4 ∧ ∃ v5, [V.sl (List.map Cell.enc a) k1, V.sl (List.map Cell.enc b) k2][n4.toNat]? = some v5 ∧ ∃ l6 c7, v5 = V.sl l6 c7 ∧ bif decide (IntKind.i64.wrap (n3 + (↑l6.length : Int)) < 0) then False else s0 [V.int IntKind.i64 (IntKind.i64.wrap (n3 + (↑l6.length : Int))), V.int IntKind.i64 (IntKind.i64.wrap (n4 + 1))] s2 else AC Tryz.prog 94 [V.sl [] Cap.full, V.int IntKind.i64 n3] s2 fun v8 s9 => ∃ l10 c11, v8 = V.sl l10 c11 ∧ lfp (fun s12 l13 s14 => ∃ l15 c16 n17, l13 = [V.sl l15 c16, V.int IntKind.i64 n17] ∧ bif decide (n17 < (↑[V.sl (List.map Cell.enc a) k1, V.sl (List.map Cell.enc b) k2].length : Int)) then 0 ≤ n17 ∧ ∃ v18, [V.sl (List.map Cell.enc a) k1, V.sl (List.map Cell.enc b) k2][n17.toNat]? = some v18 ∧ ∃ l19 c20, v18 = V.sl l19 c20 ∧ tapp 2 l15 c16 l19 s14 fun l21 c22 s23 => s12 [V.sl l21 c22, V.int IntKind.i64 (IntKind.i64.wrap (n17 + 1))] s23 else K (V.sl l15 c16) s14) [V.sl l10 c11, V.int IntKind.i64 0] s9) [V.int IntKind.i64 0, V.int IntKind.i64 0] s) := by kernel_rfl
theorem ok_concat : okFn h_concat Tryz.f70 = true := by kernel_rfl
theorem fn_concat : Tryz.prog.funcs[70]? = some Tryz.f70 := by kernel_rfl
theorem ca_concat : callable Tryz.prog 70 = true := by kernel_rfl
abbrev n_containsf : Go.FuncId := 71
noncomputable def h_containsf : Hints := { n := 9, esc := fun _ => false, lr := fun _ => [], bx := fun _ => false, lc := fun _ => false, quiet := fun _ => false, order := fun _ => none, join := fun _ => none, carry := fun _ => [] }
noncomputable def s_containsf : Shapes := { carry := fun _ => [], res := fun _ => none }
theorem e_containsf (l : List Cell) (k : Cap) (f : FuncId) (i : Nat) (s : Store) (K : V → Store → Prop) : tfun Tryz.prog h_containsf s_containsf Tryz.f71 [.sl (l.map Cell.enc) k, .fn (.func f) [] [.ptr i 0]] s K = ( AC Tryz.prog 95 [V.sl (List.map Cell.enc l) k, V.fn (Fn.func f) [] [V.ptr i 0]] s fun v0 s1 => ∃ n2, v0 = V.int IntKind.i64 n2 ∧ K (V.bool (decide (n2 ≥ 0))) s1) := by kernel_rfl
theorem ok_containsf : okFn h_containsf Tryz.f71 = true := by kernel_rfl
theorem fn_containsf : Tryz.prog.funcs[71]? = some Tryz.f71 := by kernel_rfl
theorem ca_containsf : callable Tryz.prog 71 = true := by kernel_rfl
abbrev n_indexf : Go.FuncId := 95
noncomputable def h_indexf : Hints := { n := 19, esc := fun _ => false, lr := fun _ => [], bx := fun _ => false, lc := fun _ => false, quiet := fun _ => false, order := fun _ => none, join := fun _ => none, carry := fun i => match i with | 2 => [8] | _ => [] }
noncomputable def s_indexf : Shapes := { carry := fun i => match i with | 2 => [shA Tryz.prog 3] | _ => [], res := fun _ => none }
theorem e_indexf (l : List Cell) (k : Cap) (f : FuncId) (i : Nat) (s : Store) (K : V → Store → Prop) : tfun Tryz.prog h_indexf s_indexf Tryz.f95 [.sl (l.map Cell.enc) k, .fn (.func f) [] [.ptr i 0]] s K = ( lfp (fun s0 l1 s2 => ∃ n3, l1 = [V.int IntKind.i64 n3] ∧ bif decide (n3 < (↑(List.map Cell.enc l).length : Int)) then 0 ≤ n3 ∧ ∃ v4, (List.map Cell.enc l)[n3.toNat]? = some v4 ∧ ∃ t5 n6, v4 = V.agg [V.str t5, V.int IntKind.u8 n6] ∧ ∃ i7 l8 l9, V.fn (Fn.func f) [] [V.ptr i 0] = V.fn (Fn.func i7) l8 l9 ∧ AC Tryz.prog i7 (l8 ++ [V.agg [V.str t5, V.int IntKind.u8 n6]] ++ l9) s2 fun v10 s11 => ∃ b12, v10 = V.bool b12 ∧ bif b12 then K (V.int IntKind.i64 n3) s11 else s0 [V.int IntKind.i64 (IntKind.i64.wrap (n3 + 1))] s11 else K (V.int IntKind.i64 (-1)) s2) [V.int IntKind.i64 0] s) := by kernel_rfl
theorem ok_indexf : okFn h_indexf Tryz.f95 = true := by kernel_rfl
theorem fn_indexf : Tryz.prog.funcs[95]? = some Tryz.f95 := by kernel_rfl
theorem ca_indexf : callable Tryz.prog 95 = true := by kernel_rfl
abbrev n_tpaths : Go.FuncId := 32
noncomputable def h_tpaths : Hints := { n := 19, esc := fun _ => false, lr := fun _ => [], bx := fun i => mem i [2, 3, 5, 6], lc := fun i => mem i [2, 3, 5, 6], quiet := fun i => mem i [50], order := fun i => match i with | 1 => some [0, 2, 4, 5, 1, 3, 6, 7] | _ => none, join := fun _ => none, carry := fun _ => [] }
noncomputable def s_tpaths : Shapes := { carry := fun _ => [], res := fun _ => none }
theorem e_tpaths (a b : Cmd) (s : Store) (K : V → Store → Prop) : tfun Tryz.prog h_tpaths s_tpaths Tryz.f32 [a.enc, b.enc] s K = ( AC Tryz.prog 50 [V.agg [V.int IntKind.i64 a.client, V.int IntKind.i64 a.seq, V.int IntKind.i64 a.op, V.str (bs a.path), V.str (bs a.value), V.int IntKind.i64 a.version, V.int IntKind.i64 a.a, V.int IntKind.i64 a.b]] s fun v0 s1 => s.le s1 ∧ ∃ l2 c3 l4 c5, v0 = V.agg [V.sl l2 c3, V.sl l4 c5] ∧ AC Tryz.prog 50 [V.agg [V.int IntKind.i64 b.client, V.int IntKind.i64 b.seq, V.int IntKind.i64 b.op, V.str (bs b.path), V.str (bs b.value), V.int IntKind.i64 b.version, V.int IntKind.i64 b.a, V.int IntKind.i64 b.b]] s1 fun v6 s7 => s1.le s7 ∧ ∃ l8 c9 l10 c11, v6 = V.agg [V.sl l8 c9, V.sl l10 c11] ∧ AC Tryz.prog 51 [V.agg [V.sl l2 c3, V.sl l4 c5], V.agg [V.sl l8 c9, V.sl l10 c11]] s7 fun v12 s13 => ∃ b14, v12 = V.bool b14 ∧ bif !b14 then AC Tryz.prog 51 [V.agg [V.sl l8 c9, V.sl l10 c11], V.agg [V.sl l2 c3, V.sl l4 c5]] s13 fun v15 s16 => ∃ b17, v15 = V.bool b17 ∧ K (V.bool b17) s16 else K (V.bool true) s13) := by kernel_rfl
theorem ok_tpaths : okFn h_tpaths Tryz.f32 = true := by kernel_rfl
theorem fn_tpaths : Tryz.prog.funcs[32]? = some Tryz.f32 := by kernel_rfl
theorem ca_tpaths : callable Tryz.prog 32 = true := by kernel_rfl
abbrev n_both : Go.FuncId := 20
noncomputable def h_both : Hints := { n := 31, esc := fun _ => false, lr := fun i => match i with | 2 => [6, 22] | 3 => [10, 24] | _ => [], bx := fun i => mem i [2, 3], lc := fun _ => false, quiet := fun _ => false, order := fun _ => none, join := fun _ => none, carry := fun _ => [] }
noncomputable def s_both : Shapes := { carry := fun _ => [], res := fun _ => none }
theorem e_both (a b : Cmd) (s : Store) (K : V → Store → Prop) : tfun Tryz.prog h_both s_both Tryz.f20 [a.enc, b.enc] s K = ( bif !a.op == 0 then bif b.op == 0 then K (V.bool false) s else AC Tryz.prog 23 [V.agg [V.int IntKind.i64 a.client, V.int IntKind.i64 a.seq, V.int IntKind.i64 a.op, V.str (bs a.path), V.str (bs a.value), V.int IntKind.i64 a.version, V.int IntKind.i64 a.a, V.int IntKind.i64 a.b]] s fun v0 s1 => ∃ b2, v0 = V.bool b2 ∧ bif !b2 then AC Tryz.prog 23 [V.agg [V.int IntKind.i64 b.client, V.int IntKind.i64 b.seq, V.int IntKind.i64 b.op, V.str (bs b.path), V.str (bs b.value), V.int IntKind.i64 b.version, V.int IntKind.i64 b.a, V.int IntKind.i64 b.b]] s1 fun v3 s4 => ∃ b5, v3 = V.bool b5 ∧ bif !b5 then bif a.client == b.client then K (V.bool true) s4 else AC Tryz.prog 32 [V.agg [V.int IntKind.i64 a.client, V.int IntKind.i64 a.seq, V.int IntKind.i64 a.op, V.str (bs a.path), V.str (bs a.value), V.int IntKind.i64 a.version, V.int IntKind.i64 a.a, V.int IntKind.i64 a.b], V.agg [V.int IntKind.i64 b.client, V.int IntKind.i64 b.seq, V.int IntKind.i64 b.op, V.str (bs b.path), V.str (bs b.value), V.int IntKind.i64 b.version, V.int IntKind.i64 b.a, V.int IntKind.i64 b.b]] s4 fun v6 s7 => ∃ b8, v6 = V.bool b8 ∧ K (V.bool b8) s7 else K (V.bool true) s4 else K (V.bool true) s1 else K (V.bool false) s) := by kernel_rfl
theorem ok_both : okFn h_both Tryz.f20 = true := by kernel_rfl
theorem fn_both : Tryz.prog.funcs[20]? = some Tryz.f20 := by kernel_rfl
theorem ca_both : callable Tryz.prog 20 = true := by kernel_rfl
abbrev n_lswaps : Go.FuncId := 7
noncomputable def h_lswaps : Hints := { n := 82, esc := fun _ => false, lr := fun _ => [], bx := fun i => mem i [4, 5, 11, 12, 13, 14], lc := fun _ => false, quiet := fun _ => false, order := fun _ => none, join := fun _ => none, carry := fun i => match i with | 8 => [9] | _ => [] }
noncomputable def s_lswaps : Shapes := { carry := fun i => match i with | 8 => [shA Tryz.prog 3] | _ => [], res := fun _ => none }
theorem e_lswaps (l : List Cmd) (k : Cap) (a b : Cmd) (s : Store) (K : V → Store → Prop) : tfun Tryz.prog h_lswaps s_lswaps Tryz.f7 [.sl (l.map Cmd.enc) k, a.enc, b.enc] s K = ( AC Tryz.prog 8 [] s fun v0 s1 => ∃ b2, v0 = V.bool b2 ∧ bif !b2 then K (V.bool false) s1 else AC Tryz.prog 9 [V.sl (List.map Cmd.enc l) k] s1 fun v3 s4 => ∃ b5, v3 = V.bool b5 ∧ bif !b5 then AC Tryz.prog 9 [V.sl [V.agg [V.int IntKind.i64 a.client, V.int IntKind.i64 a.seq, V.int IntKind.i64 a.op, V.str (bs a.path), V.str (bs a.value), V.int IntKind.i64 a.version, V.int IntKind.i64 a.a, V.int IntKind.i64 a.b], V.agg [V.int IntKind.i64 b.client, V.int IntKind.i64 b.seq, V.int IntKind.i64 b.op, V.str (bs b.path), V.str (bs b.value), V.int IntKind.i64 b.version, V.int IntKind.i64 b.a, V.int IntKind.i64 b.b]] Cap.full] s4 fun v6 s7 => ∃ b8, v6 = V.bool b8 ∧ bif !b8 then AC Tryz.prog 20 [V.agg [V.int IntKind.i64 a.client, V.int IntKind.i64 a.seq, V.int IntKind.i64 a.op, V.str (bs a.path), V.str (bs a.value), V.int IntKind.i64 a.version, V.int IntKind.i64 a.a, V.int IntKind.i64 a.b], V.agg [V.int IntKind.i64 b.client, V.int IntKind.i64 b.seq, V.int IntKind.i64 b.op, V.str (bs b.path), V.str (bs b.value), V.int IntKind.i64 b.version, V.int IntKind.i64 b.a, V.int IntKind.i64 b.b]] s7 fun v9 s10 => ∃ b11, v9 = V.bool b11 ∧ bif b11 then K (V.bool b2) s10 else AC Tryz.prog 10 [] s10 fun v12 s13 => ∃ i14, v12 = V.ptr i14 0 ∧ lfp (fun s15 l16 s17 => ∃ n18, l16 = [V.int IntKind.i64 n18] ∧ bif decide (n18 < (↑(List.map Cmd.enc l).length : Int)) then 0 ≤ n18 ∧ ∃ v19, (List.map Cmd.enc l)[n18.toNat]? = some v19 ∧ ∃ n20 n21 n22 t23 t24 n25 n26 n27, v19 = V.agg [V.int IntKind.i64 n20, V.int IntKind.i64 n21, V.int IntKind.i64 n22, V.str t23, V.str t24, V.int IntKind.i64 n25, V.int IntKind.i64 n26, V.int IntKind.i64 n27] ∧ AC Tryz.prog 11 [V.ptr i14 0, V.agg [V.int IntKind.i64 n20, V.int IntKind.i64 n21, V.int IntKind.i64 n22, V.str t23, V.str t24, V.int IntKind.i64 n25, V.int IntKind.i64 n26, V.int IntKind.i64 n27], V.agg [V.int IntKind.i64 0, V.str (ByteArray.mk #[]), V.int IntKind.i64 0, V.sl [] Cap.full]] s17 fun v28 s29 => ∃ n30 t31 n32 l33 c34, v28 = V.agg [V.int IntKind.i64 n30, V.str t31, V.int IntKind.i64 n32, V.sl l33 c34] ∧ s15 [V.int IntKind.i64 (IntKind.i64.wrap (n18 + 1))] s29 else AC Tryz.prog 18 [V.ptr i14 0] s17 fun v35 s36 => ∃ i37, v35 = V.ptr i37 0 ∧ AC Tryz.prog 11 [V.ptr i14 0, V.agg [V.int IntKind.i64 a.client, V.int IntKind.i64 a.seq, V.int IntKind.i64 a.op, V.str (bs a.path), V.str (bs a.value), V.int IntKind.i64 a.version, V.int IntKind.i64 a.a, V.int IntKind.i64 a.b], V.agg [V.int IntKind.i64 0, V.str (ByteArray.mk #[]), V.int IntKind.i64 0, V.sl [] Cap.full]] s36 fun v38 s39 => ∃ n40 t41 n42 l43 c44, v38 = V.agg [V.int IntKind.i64 n40, V.str t41, V.int IntKind.i64 n42, V.sl l43 c44] ∧ AC Tryz.prog 11 [V.ptr i14 0, V.agg [V.int IntKind.i64 b.client, V.int IntKind.i64 b.seq, V.int IntKind.i64 b.op, V.str (bs b.path), V.str (bs b.value), V.int IntKind.i64 b.version, V.int IntKind.i64 b.a, V.int IntKind.i64 b.b], V.agg [V.int IntKind.i64 0, V.str (ByteArray.mk #[]), V.int IntKind.i64 0, V.sl [] Cap.full]] s39 fun v45 s46 => ∃ n47 t48 n49 l50 c51, v45 = V.agg [V.int IntKind.i64 n47, V.str t48, V.int IntKind.i64 n49, V.sl l50 c51] ∧ AC Tryz.prog 11 [V.ptr i37 0, V.agg [V.int IntKind.i64 b.client, V.int IntKind.i64 b.seq, V.int IntKind.i64 b.op, V.str (bs b.path), V.str (bs b.value), V.int IntKind.i64 b.version, V.int IntKind.i64 b.a, V.int IntKind.i64 b.b], V.agg [V.int IntKind.i64 0, V.str (ByteArray.mk #[]), V.int IntKind.i64 0, V.sl [] Cap.full]] s46 fun v52 s53 => ∃ n54 t55 n56 l57 c58, v52 = V.agg [V.int IntKind.i64 n54, V.str t55, V.int IntKind.i64 n56, V.sl l57 c58] ∧ AC Tryz.prog 11 [V.ptr i37 0, V.agg [V.int IntKind.i64 a.client, V.int IntKind.i64 a.seq, V.int IntKind.i64 a.op, V.str (bs a.path), V.str (bs a.value), V.int IntKind.i64 a.version, V.int IntKind.i64 a.a, V.int IntKind.i64 a.b], V.agg [V.int IntKind.i64 0, V.str (ByteArray.mk #[]), V.int IntKind.i64 0, V.sl [] Cap.full]] s53 fun v59 s60 => ∃ n61 t62 n63 l64 c65, v59 = V.agg [V.int IntKind.i64 n61, V.str t62, V.int IntKind.i64 n63, V.sl l64 c65] ∧ bif b2 then AC Tryz.prog 16 [V.agg [V.int IntKind.i64 n40, V.str t41, V.int IntKind.i64 n42, V.sl l43 c44], V.agg [V.int IntKind.i64 n61, V.str t62, V.int IntKind.i64 n63, V.sl l64 c65]] s60 fun v66 s67 => ∃ b68, v66 = V.bool b68 ∧ bif b68 then AC Tryz.prog 16 [V.agg [V.int IntKind.i64 n47, V.str t48, V.int IntKind.i64 n49, V.sl l50 c51], V.agg [V.int IntKind.i64 n54, V.str t55, V.int IntKind.i64 n56, V.sl l57 c58]] s67 fun v69 s70 => ∃ b71, v69 = V.bool b71 ∧ bif b71 then AC Tryz.prog 15 [V.ptr i14 0, V.ptr i37 0] s70 fun v72 s73 => ∃ b74, v72 = V.bool b74 ∧ K (V.bool b74) s73 else K (V.bool false) s70 else K (V.bool false) s67 else K (V.bool false) s60) [V.int IntKind.i64 0] s13 else K (V.bool b2) s7 else K (V.bool b2) s4) := by kernel_rfl
theorem ok_lswaps : okFn h_lswaps Tryz.f7 = true := by kernel_rfl
theorem fn_lswaps : Tryz.prog.funcs[7]? = some Tryz.f7 := by kernel_rfl
theorem ca_lswaps : callable Tryz.prog 7 = true := by kernel_rfl
end Go.Proofs.YtdeondiigpidnaaGreat.Ab
end

section
set_option linter.unusedVariables false
set_option linter.unusedSimpArgs false
/- Contracts: which commands matter to each other. -/
namespace Go.Proofs.YtdeondiigpidnaaGreat.Ab
open Go Go.Proofs Go.Sort Go.RowKit
set_option linter.unusedVariables false
set_option linter.unusedSimpArgs false
set_option linter.unusedSectionVars false
set_option maxRecDepth 100000
variable [Fwd]

theorem infoC : (Tryz.prog.info? (Tryz.growC_ren.t 25)).map (fun i => (i.zero, i.size, i.bytes)) = some (some (.agg #[.string ⟨#[]⟩, .int .u8 0]), 2, 24) := by kernel_rfl

theorem ac_grow (hf : Fwd.on = false) (n : Nat) (hn : n ≤ 4294967296) (s : Store) : AC Tryz.prog n_growc [.sl [] .full, .int .i64 n] s fun r s' => (r = .sl [] .full ∧ s' = s) ∨ ∃ t, s t = none ∧ r = .sl [] (.tip t) ∧ s' = s.upd t (.tip 2) := by
  refine ⟨ca_growc, fun c hcs hR cargs ha => ?_⟩
  subst hcs
  obtain ⟨v1, _, rfl, hv, ha⟩ := repL_cons ha
  obtain ⟨v2, _, rfl, hv2, ha⟩ := repL_cons ha
  obtain rfl := repL_nil ha
  simp only [rep] at hv hv2
  subst hv2
  obtain ⟨vs, a, k, cap, h1, rfl, h2⟩ := hv
  obtain rfl : vs = [] := by simpa [repL] using h1
  have hk : k = 0 := by simpa using h2.len
  subst hk
  have hcap := h2.full rfl
  subst hcap
  by_cases h0 : n = 0
  · subst h0
    refine (Any8.slices_Grow_room Tryz.growC a 0 0 0 c.w (by omega) (by omega) (by omega) (by omega)).mono ?_
    rintro e w' ⟨rfl, rfl⟩
    exact ⟨_, .sl [] .full, c, rfl, rfl, rfl, .refl c, hR, by simp only [rep]; exact ⟨[], a, 0, 0, by simp [repL], rfl, h2⟩, .inl ⟨rfl, rfl⟩⟩
  · obtain ⟨i0, hi, hz0, hz1, hz2⟩ := info_parts infoC
    refine (Any8.slices_Grow_grow Tryz.growC i0 _ hi hz0 (by omega) a 0 0 n [] c.w (by omega) (by omega) (by rw [hz2]; omega) (by omega) (by simp) (fun _ => rfl) (fun _ _ j v h => by simp at h)).mono ?_
    rintro e w' ⟨rfl, rfl⟩
    obtain ⟨G, hG⟩ : ∃ G, G = grownCap c.w (0 + n) 0 (Tryz.growC_ren.t 25) := ⟨_, rfl⟩
    have hge : n ≤ G := by rw [hG]; have := grownCap_ge c.w (0 + n) 0 (Tryz.growC_ren.t 25); omega
    rw [← hG]
    generalize hkc : ([] : List Value).toArray ++ Builtin.zeroCells (Value.agg #[.string ⟨#[]⟩, .int .u8 0]).cells (0 + n - 0) ++ Builtin.zeroCells (Value.agg #[.string ⟨#[]⟩, .int .u8 0]).cells (G - (0 + n)) = kc
    have hks : kc.size = G * 2 := by
      rw [← hkc]
      simp only [Array.size_append, zeroCells_size, List.size_toArray, List.length_nil, Value.cells]
      simp only [List.length_cons, List.length_nil]
      omega
    obtain ⟨id, hid, hs⟩ := hR.fresh
    have hat : (c.w.drew.alloc (.cells kc (Tryz.growC_ren.t 25))).heap[c.w.heap.size]? = some (.cells kc (Tryz.growC_ren.t 25) (0, 0)) := World.alloc_heap_new c.w.drew _
    have hb : Below c.w.heap.size c.w (c.w.drew.alloc (.cells kc (Tryz.growC_ren.t 25))) := (Below.refl _ c.w).drew.alloc (Nat.le_refl _) _
    have hlt : c.w.heap.size < (c.w.drew.alloc (.cells kc (Tryz.growC_ren.t 25))).heap.size := (Array.getElem?_eq_some_iff.1 hat).1
    obtain ⟨c', k1, k2, k3, k4, k5, k6⟩ := evo_new (id := id) (b := c.w.heap.size) (o := .tip 2) hR hb (fun h => by rw [hf] at h; cases h) hid hlt (Nat.le_refl _) (fun c' hw hx => ⟨kc, _, by rw [hw]; exact hat, Nat.zero_le _⟩)
    refine ⟨_, .sl [] (.tip id), c', rfl, k1, k2, k3, k4, ?_, .inr ⟨id, hs, rfl, k5⟩⟩
    simp only [rep]
    refine ⟨[], _, 0, G, by simp [repL], rfl, ⟨rfl, Nat.zero_le _, nofun, .inl rfl, ⟨0, fun v h => by simp at h⟩, fun t ht => by cases ht; simp [k6], fun t ht sz hsz => ?_⟩⟩
    cases ht
    rw [k5] at hsz
    simp only [Store.upd, if_true, Option.some.injEq, Obj.tip.injEq] at hsz
    subst hsz
    exact ⟨_, _, 0, (Tryz.growC_ren.t 25, kc.size), k6, rfl, by simp, by rw [k1]; unfold World.shape?; rw [hat], by simp only; omega, fun v h => by simp at h⟩

theorem cell_fits (c : Cell) : fits c.enc 2 := ⟨rfl, rfl⟩
theorem cell_len (l : List Cell) : ∀ e ∈ l.map Cell.enc, e.cells.length = 2 := by
  intro e he
  obtain ⟨x, _, rfl⟩ := List.mem_map.1 he
  rfl

theorem ac_of (p : Bytes) (l : List Int) (k : Cap) (hl : l.length ≤ 4294967295) (s : Store) : AC Tryz.prog n_tof [.str (bs p), .sl (l.map fun n => V.int .u8 n) k] s fun r s' => ∃ c, r = .sl ((ofP p l).map Cell.enc) c ∧ Own s 2 c s' := by
  refine AC_of_tfun (H := h_tof) (S := s_tof) (K := fun r s' => ∃ c, r = .sl ((ofP p l).map Cell.enc) c ∧ Own s 2 c s') mixed fn_tof ca_tof ok_tof ?_ fun r s' h => ⟨r, s', .refl _, .refl _, h⟩
  rw [e_tof]
  refine lfp_up l.length (fun i vs s' => ∃ c, vs = [.sl ((ofP p (l.take i)).map Cell.enc) c, .int .i64 i] ∧ Own s 2 c s') ?_ ⟨.full, rfl, .full⟩
  rintro i _ s2 hi ⟨c, rfl, ho⟩ X hX
  refine ⟨_, _, _, rfl, ?_⟩
  simp only [List.length_map]
  refine cond_of (fun hc => ?_) (fun hc => ?_)
  · have hlt : i < l.length := by simpa using hc
    refine ⟨by omega, .int .u8 l[i], by simp [hlt], _, rfl, ?_⟩
    refine tapp_own ho (by simp [ofP]; omega) (cell_len _) ⟨cell_fits ⟨p, l[i]⟩, trivial⟩ fun c2 s3 ho3 => ?_
    rw [wrap_small (by omega)]
    refine hX hlt _ _ ⟨c2, ?_, ho3⟩
    have e1 : ofP p (l.take (i + 1)) = ofP p (l.take i) ++ [⟨p, l[i]⟩] := by
      rw [List.take_succ_eq_append_getElem hlt]
      simp only [ofP, List.map_append, List.map_cons, List.map_nil]
    rw [e1, List.map_append]
    simp [Cell.enc]
  · have : i = l.length := by simp at hc; omega
    subst this
    exact ⟨c, by rw [List.take_length], ho⟩

theorem Own.step {s0 s s2 : Store} {sz : Nat} {c : Cap} (h : Own s0 sz c s) (hl : s.le s2) : Own s0 sz c s2 :=
  ⟨h.le.trans hl, h.cap.imp id fun ⟨t, h1, h2, h3⟩ => ⟨t, h1, h2, hl _ _ h3⟩⟩

theorem ac_uses (hf : Fwd.on = false) (c : Cmd) (s : Store) (hp : c.path.length ≤ 4294967296) : PAC Tryz.prog n_uses [c.enc] s ((usesP c).enc .any .any) := by
  refine PAC_of (H := h_uses) (S := s_uses) mixed fn_uses ca_uses ok_uses ?_
  rw [e_uses]
  refine (ac_pvalid c.path s hp).use ⟨_, rfl, ?_⟩
  have one : ∀ (p : Bytes) (ns : List Int) (s1 : Store) (Q : V → Store → Prop), ns.length ≤ 2 → (∀ k s2, Own s1 2 k s2 → Q (.sl ((ofP p ns).map Cell.enc) k) s2) → AC Tryz.prog 69 [.str (bs p), .sl (ns.map fun n => V.int .u8 n) .full] s1 Q := fun p ns s1 Q hn hQ =>
    AC.mono (ac_of p ns .full (by omega) s1) fun r s2 ⟨k, hr, ho⟩ => by subst hr; exact hQ k s2 ho
  have fin : ∀ (u : Use) (k1 k2 : Cap) (s2 : Store), s.le s2 → usesP c = u → Kp s ((usesP c).enc .any .any) (.agg [.sl (u.reads.map Cell.enc) k1, .sl (u.writes.map Cell.enc) k2]) s2 := fun u k1 k2 s2 hle hu => by
    subst hu
    exact Kp.wk hle (Wk.agg ⟨Wk.cap _ _, Wk.cap _ _, trivial⟩)
  refine cond_of (fun h0 => ?_) (fun h0 => ?_)
  · exact fin ⟨[], []⟩ .full .full s (.refl _) (by unfold usesP; rw [if_pos (by simpa using h0)])
  have h0' : ¬ validP c.path = false := by simpa using h0
  refine cond_of (fun h4 => ?_) (fun h4 => ?_)
  · refine one c.path [101, 118] s _ (by simp) fun k s2 ho => ⟨_, _, rfl, ?_⟩
    exact fin ⟨ofP c.path [101, 118], []⟩ k .full s2 ho.le (by unfold usesP; rw [if_neg h0', if_pos (by simpa using h4)])
  have h4' : ¬ c.op = 4 := by simpa using h4
  refine cond_of (fun h5 => ?_) (fun h5 => ?_)
  · refine one c.path [101, 107] s _ (by simp) fun k s2 ho => ⟨_, _, rfl, ?_⟩
    exact fin ⟨ofP c.path [101, 107], []⟩ k .full s2 ho.le (by unfold usesP; rw [if_neg h0', if_neg h4', if_pos (by simpa using h5)])
  have h5' : ¬ c.op = 5 := by simpa using h5
  refine (ac_parent hf c.path s hp).use ⟨_, rfl, ?_⟩
  have eroot : ((bs (parentP c.path)).toList == (ByteArray.mk #[]).toList) = decide (parentP c.path = []) := by
    rw [bs_toList, show (ByteArray.mk #[]).toList = [] from by rw [show ByteArray.mk #[] = bs [] from rfl, bs_toList]]
    rw [Bool.eq_iff_iff]; simp
  rw [eroot]
  by_cases hr : parentP c.path = []
  · rw [decide_eq_true hr]
    simp only [cond_true]
    refine cond_of (fun h1 => ?_) (fun h1 => ?_)
    · refine one c.path [101] s _ (by simp) fun k s2 ho => ⟨_, _, rfl, ?_⟩
      exact fin ⟨ofP c.path [101], []⟩ k .full s2 ho.le (by unfold usesP; rw [if_neg h0', if_neg h4', if_neg h5', if_pos ⟨by simpa using h1, hr⟩])
    · exact fin ⟨[], []⟩ .full .full s (.refl _) (by unfold usesP; rw [if_neg h0', if_neg h4', if_neg h5', if_neg (fun h => by simp at h1; exact h1 h.1), if_pos hr])
  · rw [decide_eq_false hr]
    simp only [cond_false]
    have n1 : ¬ (c.op = 1 ∧ parentP c.path = []) := fun h => hr h.2
    have e8 : ∀ u, (if c.op = 1 then (⟨ofP (parentP c.path) [101] ++ ofP c.path [101], ofP c.path [101, 118] ++ ofP (parentP c.path) [107]⟩ : Use) else if c.op = 2 then ⟨ofP c.path [101, 107], ofP c.path [101, 118] ++ ofP (parentP c.path) [107]⟩ else if c.op = 3 then ⟨ofP c.path [101], ofP c.path [118]⟩ else if c.op = 6 then ⟨ofP c.path [101, 118], ofP c.path [118]⟩ else ⟨[], []⟩) = u → usesP c = u := by
      intro u hu
      unfold usesP
      rw [if_neg h0', if_neg h4', if_neg h5', if_neg n1, if_neg hr]
      exact hu
    have lenof : ∀ p (ns : List Int), ((ofP p ns).map Cell.enc).length = ns.length := fun p ns => by simp [ofP]
    -- the ways behind
    have w4 : ¬ c.op = 1 → ¬ c.op = 2 → ¬ c.op = 3 → bif c.op == 6 then AC Tryz.prog 69 [V.str (bs c.path), V.sl [V.int IntKind.u8 101, V.int IntKind.u8 118] Cap.full] s fun v63 s64 => ∃ l65 c66, v63 = V.sl l65 c66 ∧ AC Tryz.prog 69 [V.str (bs c.path), V.sl [V.int IntKind.u8 118] Cap.full] s64 fun v67 s68 => ∃ l69 c70, v67 = V.sl l69 c70 ∧ Kp s ((usesP c).enc .any .any) (V.agg [V.sl l65 c66, V.sl l69 c70]) s68 else Kp s ((usesP c).enc .any .any) (V.agg [V.sl [] Cap.full, V.sl [] Cap.full]) s := by
      intro n1 n2 n3
      refine cond_of (fun h6 => ?_) (fun h6 => ?_)
      · refine one c.path [101, 118] s _ (by simp) fun k s2 ho => ⟨_, _, rfl, ?_⟩
        refine one c.path [118] s2 _ (by simp) fun k2 s3 ho2 => ⟨_, _, rfl, ?_⟩
        exact fin ⟨ofP c.path [101, 118], ofP c.path [118]⟩ k k2 s3 (ho.le.trans ho2.le) (e8 _ (by rw [if_neg n1, if_neg n2, if_neg n3, if_pos (by simpa using h6)]))
      · exact fin ⟨[], []⟩ .full .full s (.refl _) (e8 _ (by rw [if_neg n1, if_neg n2, if_neg n3, if_neg (by simpa using h6)]))
    refine cond_of (fun _ => ?_) (fun _ => ?_)
    all_goals
      refine cond_of (fun h1 => ?_) (fun h1 => ?_)
      · refine one (parentP c.path) [101] s _ (by simp) fun k s2 ho => ⟨_, _, rfl, ?_⟩
        refine one c.path [101] s2 _ (by simp) fun k2 s3 ho2 => ⟨_, _, rfl, ?_⟩
        refine tapp_own (ho.step ho2.le) (by rw [lenof, lenof]; simp) (cell_len _) (allFit_map cell_fits _) fun k3 s4 ho3 => ?_
        refine one c.path [101, 118] s4 _ (by simp) fun k4 s5 ho4 => ⟨_, _, rfl, ?_⟩
        refine one (parentP c.path) [107] s5 _ (by simp) fun k5 s6 ho5 => ⟨_, _, rfl, ?_⟩
        refine tapp_own (ho4.step ho5.le) (by rw [lenof, lenof]; simp) (cell_len _) (allFit_map cell_fits _) fun k6 s7 ho6 => ?_
        rw [← List.map_append, ← List.map_append]
        exact fin ⟨ofP (parentP c.path) [101] ++ ofP c.path [101], ofP c.path [101, 118] ++ ofP (parentP c.path) [107]⟩ k3 k6 s7 (ho3.le.trans ho6.le) (e8 _ (by rw [if_pos (by simpa using h1)]))
      have h1' : ¬ c.op = 1 := by simpa using h1
      refine cond_of (fun h2 => ?_) (fun h2 => ?_)
      · refine one c.path [101, 107] s _ (by simp) fun k s2 ho => ⟨_, _, rfl, ?_⟩
        refine one c.path [101, 118] s2 _ (by simp) fun k2 s3 ho2 => ⟨_, _, rfl, ?_⟩
        refine one (parentP c.path) [107] s3 _ (by simp) fun k3 s4 ho3 => ⟨_, _, rfl, ?_⟩
        refine tapp_own (ho2.step ho3.le) (by rw [lenof, lenof]; simp) (cell_len _) (allFit_map cell_fits _) fun k4 s5 ho4 => ?_
        rw [← List.map_append]
        exact fin ⟨ofP c.path [101, 107], ofP c.path [101, 118] ++ ofP (parentP c.path) [107]⟩ k k4 s5 (ho.le.trans ho4.le) (e8 _ (by rw [if_neg h1', if_pos (by simpa using h2)]))
      have h2' : ¬ c.op = 2 := by simpa using h2
      refine cond_of (fun h3 => ?_) (fun h3 => ?_)
      · refine one c.path [101] s _ (by simp) fun k s2 ho => ⟨_, _, rfl, ?_⟩
        refine one c.path [118] s2 _ (by simp) fun k2 s3 ho2 => ⟨_, _, rfl, ?_⟩
        exact fin ⟨ofP c.path [101], ofP c.path [118]⟩ k k2 s3 (ho.le.trans ho2.le) (e8 _ (by rw [if_neg h1', if_neg h2', if_pos (by simpa using h3)]))
      exact w4 h1' h2' (by simpa using h3)

theorem uses_len (c : Cmd) : (usesP c).reads.length ≤ 2 ∧ (usesP c).writes.length ≤ 3 := by
  unfold usesP
  repeat' split
  all_goals simp [ofP]

theorem ac_concat (hf : Fwd.on = false) (a b : List Cell) (k1 k2 : Cap) (s : Store) (hl : a.length + b.length ≤ 4294967296) : PAC Tryz.prog n_concat [.sl [.sl (a.map Cell.enc) k1, .sl (b.map Cell.enc) k2] .full] s (.sl ((a ++ b).map Cell.enc) .any) := by
  refine PAC_of (H := h_concat) (S := s_concat) mixed fn_concat ca_concat ok_concat ?_
  rw [e_concat]
  have b1 : ∀ {A B : Prop}, A → (bif (true : Bool) then A else B) := fun h => h
  have b0 : ∀ {A B : Prop}, B → (bif (false : Bool) then A else B) := fun h => h
  refine lfp_up 2 (fun i vs s' => vs = [.int .i64 (((if i = 0 then 0 else a.length) + (if i = 2 then b.length else 0) : Nat) : Int), .int .i64 i] ∧ s = s') ?_ ⟨by simp, rfl⟩
  rintro i _ _ hi ⟨rfl, rfl⟩ X hX
  refine ⟨_, _, rfl, ?_⟩
  have step : ∀ (n m : Nat), n + m ≤ 4294967296 → IntKind.i64.wrap ((n : Int) + (m : Int)) = ((n + m : Nat) : Int) := fun n m h => by rw [wrap_small (by omega)]; simp
  obtain rfl | rfl | rfl : i = 0 ∨ i = 1 ∨ i = 2 := by omega
  · refine b1 ⟨by omega, _, rfl, _, _, rfl, ?_⟩
    simp only [List.length_map]
    have e1 := step 0 a.length (by omega)
    simp only [if_true, Nat.zero_add, show ¬ (0 = 2) from by decide, if_false, Nat.add_zero] at e1 ⊢
    rw [e1, decide_eq_false (by omega)]
    exact b0 (hX (by omega) _ _ ⟨by simp; rfl, rfl⟩)
  · refine b1 ⟨by omega, _, rfl, _, _, rfl, ?_⟩
    simp only [List.length_map]
    have e1 := step a.length b.length (by omega)
    simp only [show ¬ (1 = 0) from by decide, show ¬ (1 = 2) from by decide, if_false, Nat.add_zero] at e1 ⊢
    rw [e1, decide_eq_false (by omega)]
    exact b0 (hX (by omega) _ _ ⟨by simp; rfl, rfl⟩)
  refine b0 ?_
  refine AC.mono (ac_grow hf (a.length + b.length) hl s) ?_
  intro r s1 hg
  have hown : ∃ k, r = .sl [] k ∧ Own s 2 k s1 := by
    rcases hg with ⟨rfl, rfl⟩ | ⟨t, h1, rfl, rfl⟩
    · exact ⟨.full, rfl, .full⟩
    · exact ⟨.tip t, rfl, le_upd h1, .inr ⟨t, rfl, h1, by simp [Store.upd]⟩⟩
  obtain ⟨k, rfl, ho⟩ := hown
  refine ⟨_, _, rfl, ?_⟩
  refine lfp_up 2 (fun i vs s' => ∃ k, vs = [.sl (((if i = 0 then [] else a) ++ (if i = 2 then b else [])).map Cell.enc) k, .int .i64 i] ∧ Own s 2 k s') ?_ ⟨k, by simp, ho⟩
  rintro i _ s2 hi ⟨k, rfl, ho⟩ Y hY
  refine ⟨_, _, _, rfl, ?_⟩
  obtain rfl | rfl | rfl : i = 0 ∨ i = 1 ∨ i = 2 := by omega
  · refine b1 ⟨by omega, _, rfl, _, _, rfl, ?_⟩
    refine tapp_own ho (by simp; omega) (cell_len _) (allFit_map cell_fits _) fun k3 s3 ho3 => ?_
    exact hY (by omega) _ _ ⟨k3, by simp; rfl, ho3⟩
  · refine b1 ⟨by omega, _, rfl, _, _, rfl, ?_⟩
    refine tapp_own ho (by simp; omega) (cell_len _) (allFit_map cell_fits _) fun k3 s3 ho3 => ?_
    exact hY (by omega) _ _ ⟨k3, by simp; rfl, ho3⟩
  · refine b0 ?_
    exact Kp.wk ho.le (by simpa using Wk.cap _ _)

theorem ac_indexf (l : List Cell) (k : Cap) (f : FuncId) (i : Nat) (s : Store) (q : Cell → Bool) (hl : l.length ≤ 4294967296) (hq : ∀ c, PAC Tryz.prog f [c.enc, .ptr i 0] s (.bool (q c))) :
    AC Tryz.prog n_indexf [.sl (l.map Cell.enc) k, .fn (.func f) [] [.ptr i 0]] s fun r s' => s' = s ∧ ∃ n : Int, r = .int .i64 n ∧ decide (n ≥ 0) = l.any q := by
  refine AC_of_tfun (H := h_indexf) (S := s_indexf) (K := fun r s' => s' = s ∧ ∃ n : Int, r = .int .i64 n ∧ decide (n ≥ 0) = l.any q) mixed fn_indexf ca_indexf ok_indexf ?_ fun r s' h => ⟨r, s', .refl _, .refl _, h⟩
  rw [e_indexf]
  refine lfp_up l.length (fun i vs s' => vs = [.int .i64 i] ∧ s = s' ∧ (l.take i).any q = false) ?_ ⟨rfl, rfl, rfl⟩
  rintro j _ _ hj ⟨rfl, rfl, hno⟩ X hX
  refine ⟨_, rfl, ?_⟩
  simp only [List.length_map]
  refine cond_of (fun hc => ?_) (fun hc => ?_)
  · have hlt : j < l.length := by simpa using hc
    refine ⟨by omega, l[j].enc, by simp [hlt], _, _, rfl, f, [], [.ptr i 0], rfl, ?_⟩
    refine (hq l[j]).use ⟨_, rfl, ?_⟩
    refine cond_of (fun h1 => ?_) (fun h1 => ?_)
    · refine ⟨rfl, _, rfl, ?_⟩
      have h2 : l.any q = true := List.any_eq_true.2 ⟨l[j], List.getElem_mem _, h1⟩
      rw [h2]
      exact decide_eq_true (by omega)
    · rw [wrap_small (by omega)]
      refine hX hlt _ _ ⟨by simp, rfl, ?_⟩
      rw [List.take_succ_eq_append_getElem hlt, List.any_append, hno]
      simp [h1]
  · have : j = l.length := by simp at hc; omega
    subst this
    refine ⟨trivial, _, rfl, ?_⟩
    rw [List.take_length] at hno
    rw [hno]; decide
theorem ac_containsf (l : List Cell) (k : Cap) (f : FuncId) (i : Nat) (s : Store) (q : Cell → Bool) (hl : l.length ≤ 4294967296) (hq : ∀ c, PAC Tryz.prog f [c.enc, .ptr i 0] s (.bool (q c))) :
    PAC Tryz.prog n_containsf [.sl (l.map Cell.enc) k, .fn (.func f) [] [.ptr i 0]] s (.bool (l.any q)) := by
  refine PAC_of (H := h_containsf) (S := s_containsf) mixed fn_containsf ca_containsf ok_containsf ?_
  rw [e_containsf]
  refine AC.mono (ac_indexf l k f i s q hl hq) ?_
  rintro _ _ ⟨rfl, n, rfl, hn⟩
  exact ⟨n, rfl, Kp.of (congrArg V.bool hn)⟩

/-! the cells that are used -/
def cput : List Cell → Cell → List Cell
  | [], c => [c]
  | x :: r, c => if c = x then x :: r else x :: cput r c
def cmap (L : List Cell) : List (V × V) := L.map fun c => (c.enc, .bool true)
theorem mem_cput : ∀ {L : List Cell} {c x : Cell}, x ∈ cput L c ↔ x = c ∨ x ∈ L
  | [], c, x => by simp [cput]
  | y :: r, c, x => by
    unfold cput
    split
    · rename_i h; subst h; simp
    · simp only [List.mem_cons, mem_cput (L := r)]
      constructor
      · rintro (h | h | h)
        · exact .inr (.inl h)
        · exact .inl h
        · exact .inr (.inr h)
      · rintro (h | h | h)
        · exact .inr (.inl h)
        · exact .inl h
        · exact .inr (.inr h)
theorem keq_cell (a b : Cell) : keq a.enc b.enc = decide (a = b) := by
  simp only [Cell.enc, keq, keqL, keqS, bs_toList, Bool.and_true]
  rw [Bool.eq_iff_iff]
  simp
  constructor
  · rintro ⟨h1, h2⟩; cases a; cases b; simp at h1 h2; simp [h1, h2]
  · rintro rfl; simp
theorem mput_cmap : ∀ (L : List Cell) (c : Cell), mput (cmap L) c.enc (.bool true) = cmap (cput L c)
  | [], c => rfl
  | x :: r, c => by
    have ih := mput_cmap r c
    simp only [cmap, List.map_cons, mput, cput] at ih ⊢
    rw [keq_cell]
    by_cases h : c = x
    · simp [h]
    · simp [h, ih]
theorem mlook_cmap (L : List Cell) (c : Cell) : (mlook (cmap L) c.enc).getD (.bool false) = .bool (L.contains c) := by
  induction L with
  | nil => rfl
  | cons x r ih =>
    unfold mlook cmap at ih ⊢
    rw [List.map_cons, List.find?_cons]
    simp only []
    rw [keq_cell]
    by_cases h : c = x
    · subst h; simp
    · simp only [decide_eq_false h]
      rw [ih]
      simp [h]
theorem cmap_keys (L : List Cell) : ∀ x ∈ cmap L, hasKK (KK.ag [SK.str, SK.int IntKind.u8]) x.fst = true := by
  intro x hx
  obtain ⟨c, _, rfl⟩ := List.mem_map.1 hx
  rfl

theorem ac_spoilsf (i m : Nat) (L : List Cell) (s : Store) (h1 : s i = some (.cells [.map m])) (h2 : s m = some (.map (cmap L))) (c : Cell) : PAC Tryz.prog n_spoilsf [c.enc, .ptr i 0] s (.bool (L.contains c)) := by
  refine PAC_of (H := h_spoilsf) (S := s_spoilsf) mixed fn_spoilsf ca_spoilsf ok_spoilsf ?_
  rw [e_spoilsf]
  exact ⟨_, _, _, h1, rfl, rfl, _, rfl, _, .inl h2, cmap_keys L, _, mlook_cmap L c, _, rfl, Kp.mk⟩

theorem ac_spoils (hf : Fwd.on = false) (u x : Use) (k1 k2 k3 k4 : Cap) (s : Store) (hx : x.reads.length + x.writes.length ≤ 4294967296) (hu : u.writes.length ≤ 4294967296) : PAC Tryz.prog n_spoils [u.enc k1 k2, x.enc k3 k4] s (.bool (spoilsP u x)) := by
  refine PAC_of (H := h_spoils) (S := s_spoils) mixed fn_spoils ca_spoils ok_spoils ?_
  rw [e_spoils]
  intro m hm i hi
  have him : i ≠ m := fun e => by subst e; simp [Store.upd] at hi
  have hsi : s i = none := by simpa [Store.upd, him] using hi
  refine ⟨.cells [.map m], .inl ⟨[.nilmap], by simp [Store.upd], by simp, rfl⟩, ?_⟩
  rw [upd_upd]
  let st : List Cell → Store := fun L => (s.upd m (.map (cmap L))).upd i (.cells [.map m])
  have sti : ∀ L, st L i = some (.cells [.map m]) := fun L => by simp [st, Store.upd]
  have stm : ∀ L, st L m = some (.map (cmap L)) := fun L => by simp [st, Store.upd, Ne.symm him]
  have stle : ∀ L, s.le (st L) := fun L => (le_upd hm).trans (le_upd (by rw [upd_ne him]; exact hsi))
  have stup : ∀ L L', (st L).upd m (.map (cmap L')) = st L' := fun L L' => by
    funext j
    simp only [st, Store.upd]
    by_cases h1 : j = m
    · subst h1; simp [Ne.symm him]
    · simp [h1]
  refine (ac_concat hf x.reads x.writes k3 k4 _ hx).use ⟨_, _, rfl, ?_⟩
  generalize hL : x.reads ++ x.writes = l
  have hll : l.length ≤ 4294967296 := by rw [← hL]; simpa using hx
  refine lfp_up l.length (fun j vs s' => vs = [.int .i64 j] ∧ ∃ L, st L = s' ∧ ∀ c, c ∈ L ↔ c ∈ l.take j) ?_ ⟨rfl, [], rfl, by simp⟩
  rintro j _ _ hj ⟨rfl, L, rfl, hmem⟩ X hX
  refine ⟨_, rfl, ?_⟩
  simp only [List.length_map]
  refine cond_of (fun hc => ?_) (fun hc => ?_)
  · have hlt : j < l.length := by simpa using hc
    refine ⟨by omega, l[j].enc, by simp [hlt], _, _, rfl, _, _, _, sti L, rfl, rfl, m, rfl, _, stm L, cmap_keys L, ?_⟩
    rw [wrap_small (by omega)]
    have := mput_cmap L l[j]
    simp only [Cell.enc] at this
    rw [this, stup]
    refine hX hlt _ _ ⟨by simp, _, rfl, fun c => ?_⟩
    rw [mem_cput, List.take_succ_eq_append_getElem hlt, List.mem_append, List.mem_singleton, hmem c]
    exact Or.comm
  · have : j = l.length := by simp at hc; omega
    subst this
    rw [List.take_length] at hmem
    refine (ac_containsf u.writes k2 n_spoilsf i (st L) (fun c => L.contains c) hu fun c => ac_spoilsf i m L _ (sti L) (stm L) c).use ⟨_, rfl, ?_⟩
    refine ⟨stle L, ?_⟩
    have : (u.writes.any fun c => L.contains c) = spoilsP u x := by
      unfold spoilsP
      rw [hL]
      congr 1
      funext c
      rw [Bool.eq_iff_iff]
      simp [hmem c]
    rw [this]
    exact .refl _

theorem ac_tpaths (hf : Fwd.on = false) (a b : Cmd) (s : Store) (ha : a.path.length ≤ 4294967296) (hb : b.path.length ≤ 4294967296) : PAC Tryz.prog n_tpaths [a.enc, b.enc] s (.bool (pathsP a b)) := by
  refine PAC_of (H := h_tpaths) (S := s_tpaths) mixed fn_tpaths ca_tpaths ok_tpaths ?_
  rw [e_tpaths]
  have la := uses_len a
  have lb := uses_len b
  refine (ac_uses hf a s ha).use ⟨.refl _, _, _, _, _, rfl, ?_⟩
  refine (ac_uses hf b s hb).use ⟨.refl _, _, _, _, _, rfl, ?_⟩
  refine (ac_spoils hf (usesP a) (usesP b) .any .any .any .any s (by omega) (by omega)).use ⟨_, rfl, ?_⟩
  unfold pathsP
  refine cond_of (fun h => ?_) (fun h => ?_)
  · refine (ac_spoils hf (usesP b) (usesP a) .any .any .any .any s (by omega) (by omega)).use ⟨_, rfl, Kp.of (congrArg V.bool ?_)⟩
    simp at h; simp [h]
  · exact Kp.of (congrArg V.bool (by simp at h; simp [h]))
theorem ac_both (hf : Fwd.on = false) (a b : Cmd) (s : Store) (ha : a.path.length ≤ 4294967296) (hb : b.path.length ≤ 4294967296) : PAC Tryz.prog n_both [a.enc, b.enc] s (.bool (bothP a b)) := by
  refine PAC_of (H := h_both) (S := s_both) mixed fn_both ca_both ok_both ?_
  rw [e_both]
  unfold bothP
  refine cond_of (fun h1 => ?_) (fun h1 => ?_)
  rotate_left
  · exact Kp.of (congrArg V.bool (by rw [if_pos (.inl (by simpa using h1))]))
  have h1' : ¬ a.op = 0 := by simpa using h1
  refine cond_of (fun h2 => ?_) (fun h2 => ?_)
  · exact Kp.of (congrArg V.bool (by rw [if_pos (.inr (by simpa using h2))]))
  have h2' : ¬ b.op = 0 := by simpa using h2
  rw [if_neg (fun h => h.elim h1' h2')]
  refine (ac_control a s).use ⟨_, rfl, ?_⟩
  refine cond_of (fun h3 => ?_) (fun h3 => ?_)
  rotate_left
  · exact Kp.of (congrArg V.bool (by rw [if_pos (.inl (by simpa using h3))]))
  refine (ac_control b s).use ⟨_, rfl, ?_⟩
  refine cond_of (fun h4 => ?_) (fun h4 => ?_)
  rotate_left
  · exact Kp.of (congrArg V.bool (by rw [if_pos (.inr (.inl (by simpa using h4)))]))
  refine cond_of (fun h5 => ?_) (fun h5 => ?_)
  · exact Kp.of (congrArg V.bool (by rw [if_pos (.inr (.inr (by simpa using h5)))]))
  refine (ac_tpaths hf a b s ha hb).use ⟨_, rfl, Kp.of (congrArg V.bool ?_)⟩
  have g3 : ¬ a.control = true := by simpa using h3
  have g4 : ¬ b.control = true := by simpa using h4
  rw [if_neg (fun h => h.elim g3 fun h => h.elim g4 fun h => by simp at h5; exact h5 h)]

end Go.Proofs.YtdeondiigpidnaaGreat.Ab
end
