
/- PacketEncodes, PacketSame, PacketBack: the walks. No conditions. -/
import Derived.Test.YtjjnbcdcppnllaaP9
set_option linter.unusedVariables false
set_option linter.unusedSimpArgs false
set_option linter.unusedSectionVars false
set_option maxRecDepth 100000
namespace Go.Proofs.Ytjjnbcdcppnllaa
open Go.Sp Go.RowKit

/-- A packet's form, or none. -/
theorem packet_Encode_any {w₀ w : World} {F : HP} {x : PK} {p : Option Addr} {l c : Nat} (h : Sat w₀ F w) (hx : PIn x) (gx : Gives F 36 p l (x.rs.flatMap orC)) (hl : l ≤ 4611686018427387904) :
    call Try.prog fn_packet_Encode #[.agg (pkF x (.slice p l c))] w fun v w' => ∃ q m d e G, v = .tuple #[.slice q m d, .int .i64 e] ∧ Sat w₀ (G * F) w' ∧ ((RightP x ∧ e = 0 ∧ m = (encP x).length ∧ Gives G 1 q m (by8 (encP x))) ∨ (¬ RightP x ∧ e = 5)) := by
  by_cases hr : RightP x
  · refine call_mono (packet_Encode_ok h hx hr gx hl) ?_
    rintro _ w' ⟨q, d, rfl, h'⟩
    exact ⟨q, _, d, 0, _, rfl, h', .inl ⟨hr, rfl, rfl, Gives.own⟩⟩
  · refine call_mono (packet_Encode_no h hx hr gx hl) ?_
    rintro _ w' ⟨rfl, h'⟩
    exact ⟨none, 0, 0, 5, emp, rfl, h'.with_emp, .inr ⟨hr, rfl⟩⟩
end Go.Proofs.Ytjjnbcdcppnllaa
