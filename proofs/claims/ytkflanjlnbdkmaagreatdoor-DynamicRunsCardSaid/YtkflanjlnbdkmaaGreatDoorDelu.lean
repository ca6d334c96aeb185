/- This program holds no sort and no deletion of numbers of 64 bits. -/
import Derived.Test.YtkflanjlnbdkmaaGreatDoorChecked
namespace Go.Proofs.YtkflanjlnbdkmaaGreatDoor
end Go.Proofs.YtkflanjlnbdkmaaGreatDoor
