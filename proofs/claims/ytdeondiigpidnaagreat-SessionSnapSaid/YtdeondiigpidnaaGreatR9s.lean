/- The law SessionSnap holds: what a machine has makes a machine again that goes on as the first does. Conditions: none; for every slice, every command, of whatever length, and each argument reads afterwards as it read before. -/
import Derived.Test.YtdeondiigpidnaaGreatM5
namespace Go.Proofs.YtdeondiigpidnaaGreat
open Go Go.RowKit Go.ChangeShapes Go.WideShapes Ab
set_option linter.unusedVariables false
set_option maxRecDepth 100000

theorem sessionSnap_fun : Tryz.prog.funcs[3]? = some Tryz.f3 := by kernel_rfl
theorem sessionSnap_par : Tryz.f3.params = #[22, 22] := by kernel_rfl
theorem sessionSnap_lifted (os : Os) (started : os.Started) (H : Type) (enc : TypeId × Value → H) :
    ReturnsInHanded {} Tryz.checked os 3 .any (Rows.sessionSnapSpec.pre6 enc Tryz.prog Tryz.f3 Rows.sessionSnapRow.domain false) (Rows.sessionSnapSpec.post enc Tryz.prog Tryz.f3 false true false false) := by
  refine returnsInHanded_of_change (C := Tryz.checked) own9 started (by kernel_rfl) sessionSnap_fun
    (ChangeSpec.witness6 (enc := enc) (C := Tryz.checked) false ⟨#[], #[.slice none 0 0, .slice none 0 0], []⟩ 12 (by kernel_rfl) (by kernel_rfl) (by kernel_rfl) (by kernel_rfl)) ?_
  intro W base args ds gs before hval hW _ _
  letI : Fwd := ⟨false⟩
  refine said_contract (n := 6) (tb := 4) lo9 (fun t ht => ?_) (by kernel_rfl) (by kernel_rfl) rfl (fun ds hl => ?_) (fun us hu => ?_) hval hW
  · rw [sessionSnap_par] at ht
    change t ∈ [22, 22] at ht
    simp only [List.mem_cons, List.not_mem_nil, or_false] at ht
    rcases ht with rfl | rfl
    · exact ok9l
    · exact ok9l
  · rw [sessionSnap_par] at hl
    obtain ⟨a0, a1, rfl⟩ := len2 hl
    rfl
  · rw [sessionSnap_par] at hu
    obtain ⟨u0, _, rfl, h0, u1, _, rfl, h1, rfl⟩ := hu
    obtain ⟨x0, rfl⟩ := cmds9 h0
    obtain ⟨x1, rfl⟩ := cmds9 h1
    exact ac_lsnap rfl x0 .any x1 .any _
theorem sessionSnap_proved : Rows.SessionSnapSaid :=
  OpenClaim.holds_of_wide 3 Tryz.f3 rfl rfl rfl rfl rfl rfl rfl ⟨rfl, rfl, rfl, rfl, rfl⟩ rfl rfl rfl rfl rfl (by kernel_rfl) sessionSnap_fun (by kernel_rfl)
    (of_decide_eq_true (by kernel_rfl)) (by unfold Func.isWrapper; first | (rw [if_pos (by decide +kernel)]; kernel_rfl) | (rw [if_neg (by decide +kernel)]; exact ⟨rfl, rfl⟩))
    (fun os started H enc _ => sessionSnap_lifted os started H enc)

end Go.Proofs.YtdeondiigpidnaaGreat
