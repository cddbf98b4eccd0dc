/- The value logic, part 0: the package-level errors that are read (by their numbers). -/
namespace Go.Proofs.Ytodnphnbnneegaa.VL
def GS : List Nat := []
end Go.Proofs.Ytodnphnbnneegaa.VL
