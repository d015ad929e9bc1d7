/- The document's flattening: a call or a cons. -/
import Derived.Test.YtcpkdbofohkipaaGreatK30
set_option linter.unusedVariables false
set_option linter.unusedSimpArgs false
namespace Go.Proofs.YtcpkdbofohkipaaGreat
open Go.AM
section
variable {p : List Df} {fid : Nat} {h h1 : Hp} {names : Nms} {n : Int} {K : AV → Hp → Prop}

end
end Go.Proofs.YtcpkdbofohkipaaGreat

/- The document's flattening: one expression. -/
namespace Go.Proofs.YtcpkdbofohkipaaGreat
open Go.AM
section
variable {p : List Df} {fid : Nat} {h h1 : Hp} {names : Nms} {n : Int} {K : AV → Hp → Prop}

end
end Go.Proofs.YtcpkdbofohkipaaGreat
