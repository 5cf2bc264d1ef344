/- Calls that read a row of one's own. -/
import Derived.Test.YtdoegkegjaadeaaGreatDoorV22
namespace Go.V
open Go
end Go.V
