/-
  Parts of the proof, one behind the other. Own work of this seat; some printed by its programs.
-/
import Derived.Test.YtpmgdngjbdkdfaaGreatDoorM5
namespace Go.Proofs.YtpmgdngjbdkdfaaGreatDoor
open Go.Abs
theorem Z8e : kchk 24 30 [98, 108, 111, 98] kblob [] = true := by decide +kernel
theorem Z7l : kchk 25 30 [98, 108, 111, 98] kblob [] = true := by decide +kernel
theorem Z5s : kchk 26 30 [98, 108, 111, 98] kblob [] = true := by decide +kernel
theorem Z8m : kchk 27 30 [98, 108, 111, 98] kblob [] = true := by decide +kernel
theorem Z6s : kchk 28 30 [98, 108, 111, 98] kblob [] = true := by decide +kernel
theorem Z53 : kchk 29 30 [98, 108, 111, 98] kblob [] = true := by decide +kernel
theorem Z6b : kchk 30 30 [98, 108, 111, 98] kblob [] = true := by decide +kernel
theorem Z65 : kchk 31 30 [98, 108, 111, 98] kblob [] = true := by decide +kernel
theorem Z6u : kchk 32 30 [98, 108, 111, 98] kblob [] = true := by decide +kernel
theorem Z7j : kchk 33 30 [98, 108, 111, 98] kblob [] = true := by decide +kernel
end Go.Proofs.YtpmgdngjbdkdfaaGreatDoor
