/- The document's Do: its residual program is sound. -/
import Derived.Test.YtboeaelijjamoaaGreatDoorK44
namespace Go.Proofs.W.Q11
open Go Go.Proofs Go.Proofs.V Go.Proofs.V.U11 Go.Proofs.W
set_option linter.unusedVariables false
set_option linter.unusedSimpArgs false
set_option maxRecDepth 100000
variable {z : Nat → Option (List AV → Option AV)}
theorem s_ref11_Do (hr : z 25 = some putExt) : FSound (cfgZ z) ⟨⟨8, [.c (.sl (.cons .str (.one .str))), .c (.sl (.cons .str (.cons .bool (.one .str)))), .c (.int .i64)], [.c (.sl (.cons .str (.one .str))), .c (.int .i64)]⟩, Q11.ref11_Do⟩ :=
  w_sound (W := ⟨real, Tryz.prog, fun _ => false, dsOf (cfgZ z), [⟨⟨23, [.c (.sl (.cons .str (.one .str)))], [.c .bool]⟩, Q10.ref04_Right⟩, ⟨⟨24, [.c (.sl (.cons .str (.one .str))), .c .str], [.c (.sl (.cons .str (.one .str))), .c (.int .i64)]⟩, Q11.ref04_Drop⟩, ⟨⟨25, [.c (.sl (.cons .str (.one .str))), .c .str, .c .str], [.c (.sl (.cons .str (.one .str))), .c (.int .i64)]⟩, Q11.ref04_Put⟩, ⟨⟨26, [.c (.sl (.cons .str (.one .str)))], [.c (.int .i64)]⟩, Q11.ref04_Size⟩]⟩) (H := ⟨[(5, [.val 0 (.c (.sl (.cons .str (.one .str)))), .val 9 (.c (.int .i64))], [1, 2])], [], 63, []⟩) (a := [.c (.sl (.cons .str (.one .str))), .c (.sl (.cons .str (.cons .bool (.one .str)))), .c (.int .i64)]) (rs := [.c (.sl (.cons .str (.one .str))), .c (.int .i64)]) ⟨rfl, rfl, rfl, rfl, (consT s_ref04_Right (consT s_ref04_Drop (consT (s_ref04_Put hr) (consT s_ref04_Size nilT))))⟩ Q11.ref11_Do 80 Tryz.func8 rfl (by kernel_rfl) (by kernel_rfl) (by kernel_rfl) (by kernel_rfl) (by kernel_rfl) (by kernel_rfl) (fun t => by kernel_rfl) (fun x => by kernel_rfl)
end Go.Proofs.W.Q11
