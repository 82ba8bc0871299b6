/- The law SessionNone holds: whatever commands were done, a command of no operation, or of no client, is answered as such and leaves the machine as it was. Conditions: none; for every slice, every command, of whatever length, and each argument reads afterwards as it read before. -/
import Derived.Test.YtdeondiigpidnaaGreatM5
namespace Go.Proofs.YtdeondiigpidnaaGreat
open Go Go.RowKit Go.ChangeShapes Go.WideShapes Ab
set_option linter.unusedVariables false
set_option maxRecDepth 100000

theorem sessionNone_fun : Tryz.prog.funcs[5]? = some Tryz.f5 := by kernel_rfl
theorem sessionNone_par : Tryz.f5.params = #[22, 34] := by kernel_rfl
theorem sessionNone_lifted (os : Os) (started : os.Started) (H : Type) (enc : TypeId × Value → H) :
    ReturnsInHanded {} Tryz.checked os 5 .any (Rows.sessionNoneSpec.pre6 enc Tryz.prog Tryz.f5 Rows.sessionNoneRow.domain false) (Rows.sessionNoneSpec.post enc Tryz.prog Tryz.f5 false true false false) := by
  refine returnsInHanded_of_change (C := Tryz.checked) own9 started (by kernel_rfl) sessionNone_fun
    (ChangeSpec.witness6 (enc := enc) (C := Tryz.checked) false ⟨#[], #[.slice none 0 0, .agg #[.int .i64 0, .int .i64 0, .int .i64 0, .string .empty, .string .empty, .int .i64 0, .int .i64 0, .int .i64 0]], []⟩ 12 (by kernel_rfl) (by kernel_rfl) (by kernel_rfl) (by kernel_rfl)) ?_
  intro W base args ds gs before hval hW _ _
  letI : Fwd := ⟨false⟩
  refine said_contract (n := 6) (tb := 4) lo9 (fun t ht => ?_) (by kernel_rfl) (by kernel_rfl) rfl (fun ds hl => ?_) (fun us hu => ?_) hval hW
  · rw [sessionNone_par] at ht
    change t ∈ [22, 34] at ht
    simp only [List.mem_cons, List.not_mem_nil, or_false] at ht
    rcases ht with rfl | rfl
    · exact ok9l
    · exact ok9c
  · rw [sessionNone_par] at hl
    obtain ⟨a0, a1, rfl⟩ := len2 hl
    rfl
  · rw [sessionNone_par] at hu
    obtain ⟨u0, _, rfl, h0, u1, _, rfl, h1, rfl⟩ := hu
    obtain ⟨x0, rfl⟩ := cmds9 h0
    obtain ⟨x1, rfl⟩ := cmd9 h1
    exact ac_lnone rfl x0 .any x1 _
theorem sessionNone_proved : Rows.SessionNoneSaid :=
  OpenClaim.holds_of_wide 5 Tryz.f5 rfl rfl rfl rfl rfl rfl rfl ⟨rfl, rfl, rfl, rfl, rfl⟩ rfl rfl rfl rfl rfl (by kernel_rfl) sessionNone_fun (by kernel_rfl)
    (of_decide_eq_true (by kernel_rfl)) (by unfold Func.isWrapper; first | (rw [if_pos (by decide +kernel)]; kernel_rfl) | (rw [if_neg (by decide +kernel)]; exact ⟨rfl, rfl⟩))
    (fun os started H enc _ => sessionNone_lifted os started H enc)

end Go.Proofs.YtdeondiigpidnaaGreat
