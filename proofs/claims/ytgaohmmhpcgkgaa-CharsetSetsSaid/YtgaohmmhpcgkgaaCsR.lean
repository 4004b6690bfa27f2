/- CharsetSets' walk. No conditions. -/
import Derived.Test.YtgaohmmhpcgkgaaCsV
import Derived.Test.YtgaohmmhpcgkgaaCsW
namespace Go.Proofs.Ytgaohmmhpcgkgaa
theorem sets_any (w : World) (s t : CS) (f t2 n : Nat) (hf : f < 256) (hto : t2 < 256) (h256 : n < 256) (hm : MLen w) :
    Calls Try.prog 5 #[s.val, t.val, .int .u8 f, .int .u8 t2, .int .u8 n] w fun e w' => e = .returned (.bool true) ∧ Kept (fun _ => False) w w' := by
  by_cases h : f ≤ n
  · exact sets_le w s t f t2 n hf hto h256 hm h
  · exact sets_gt w s t f t2 n hf hto h256 hm h
end Go.Proofs.Ytgaohmmhpcgkgaa
