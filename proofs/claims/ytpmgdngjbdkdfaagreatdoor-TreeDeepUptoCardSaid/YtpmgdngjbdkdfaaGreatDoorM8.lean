/-
  Parts of the proof, one behind the other. Own work of this seat; some printed by its programs.
-/
import Derived.Test.YtpmgdngjbdkdfaaGreatDoorM5
namespace Go.Proofs.YtpmgdngjbdkdfaaGreatDoor
open Go.Abs
theorem Z5u : kchk 34 30 [98, 108, 111, 98] kblob [] = true := by decide +kernel
theorem Z72 : kchk 35 30 [98, 108, 111, 98] kblob [] = true := by decide +kernel
theorem Z7v : kchk 36 30 [98, 108, 111, 98] kblob [] = true := by decide +kernel
theorem Z8i : kchk 37 30 [98, 108, 111, 98] kblob [] = true := by decide +kernel
theorem Z7o : kchk 38 30 [98, 108, 111, 98] kblob [] = true := by decide +kernel
theorem Z5r : kchk 39 30 [98, 108, 111, 98] kblob [] = true := by decide +kernel
theorem Z6r : kchk 40 30 [98, 108, 111, 98] kblob [] = true := by decide +kernel
end Go.Proofs.YtpmgdngjbdkdfaaGreatDoor
