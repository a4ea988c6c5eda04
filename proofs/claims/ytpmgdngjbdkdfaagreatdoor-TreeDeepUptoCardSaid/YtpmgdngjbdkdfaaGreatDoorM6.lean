/-
  Parts of the proof, one behind the other. Own work of this seat; some printed by its programs.
-/
import Derived.Test.YtpmgdngjbdkdfaaGreatDoorM5
namespace Go.Proofs.YtpmgdngjbdkdfaaGreatDoor
open Go.Abs
theorem chk1 : kchk 1 30 [98, 108, 111, 98] kblob [] = true := by decide +kernel
theorem chk2 : kchk 2 30 [98, 108, 111, 98] kblob [] = true := by decide +kernel
theorem chk3 : kchk 3 30 [98, 108, 111, 98] kblob [] = true := by decide +kernel
theorem chk4 : kchk 4 30 [98, 108, 111, 98] kblob [] = true := by decide +kernel
theorem chk5 : kchk 5 30 [98, 108, 111, 98] kblob [] = true := by decide +kernel
theorem chk6 : kchk 6 30 [98, 108, 111, 98] kblob [] = true := by decide +kernel
theorem chk7 : kchk 7 30 [98, 108, 111, 98] kblob [] = true := by decide +kernel
theorem chk8 : kchk 8 30 [98, 108, 111, 98] kblob [] = true := by decide +kernel
theorem chk9 : kchk 9 30 [98, 108, 111, 98] kblob [] = true := by decide +kernel
theorem Z76 : kchk 10 30 [98, 108, 111, 98] kblob [] = true := by decide +kernel
theorem Z7y : kchk 11 30 [98, 108, 111, 98] kblob [] = true := by decide +kernel
theorem Z5x : kchk 12 30 [98, 108, 111, 98] kblob [] = true := by decide +kernel
theorem Z6c : kchk 13 30 [98, 108, 111, 98] kblob [] = true := by decide +kernel
theorem Z7z : kchk 14 30 [98, 108, 111, 98] kblob [] = true := by decide +kernel
theorem Z52 : kchk 15 30 [98, 108, 111, 98] kblob [] = true := by decide +kernel
theorem Z7i : kchk 16 30 [98, 108, 111, 98] kblob [] = true := by decide +kernel
theorem Z6x : kchk 17 30 [98, 108, 111, 98] kblob [] = true := by decide +kernel
theorem Z51 : kchk 18 30 [98, 108, 111, 98] kblob [] = true := by decide +kernel
theorem Z68 : kchk 19 30 [98, 108, 111, 98] kblob [] = true := by decide +kernel
theorem Z8r : kchk 20 30 [98, 108, 111, 98] kblob [] = true := by decide +kernel
theorem Z8g : kchk 21 30 [98, 108, 111, 98] kblob [] = true := by decide +kernel
theorem Z6n : kchk 22 30 [98, 108, 111, 98] kblob [] = true := by decide +kernel
theorem Z6y : kchk 23 30 [98, 108, 111, 98] kblob [] = true := by decide +kernel
end Go.Proofs.YtpmgdngjbdkdfaaGreatDoor
