/- What arguments read as: slices of bools. -/
import Derived.Test.YtofjbigojbnmfaaGreatDoorStP
import Derived.Test.YtofjbigojbnmfaaGreatDoorLawF
namespace Go.Proofs.YtofjbigojbnmfaaGreatDoor
open Go.RowKit Go.Lig Go.ChangeShapes Go.WideShapes Go.ChangeAt
section
variable {H : Type} {enc : TypeId × Value → H} {W : World}
theorem rd_bools {v : Value} {d : DataW H} {p : List MemPlace} (hv : v.cells.toList = [v]) (h : DataW.Trod enc Tryz.prog W 0 (fun _ => true) true 22 v d p) : ∃ l : List Bool, Rd W v l.length 1 (l.map Value.bool) :=
  rd_slice1 Value.bool (fun _ => rfl) Tryz.underlying22 (by kernel_rfl) (fun n v y h => by
    obtain ⟨m, e, -⟩ := DataW.trod_bool Tryz.underlying4 h
    exact ⟨m, by simpa using e⟩) hv h
end
end Go.Proofs.YtofjbigojbnmfaaGreatDoor
