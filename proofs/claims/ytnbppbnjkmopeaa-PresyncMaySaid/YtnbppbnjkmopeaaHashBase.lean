/- What the hash texts stand on. No condition. -/
import Derived.Test.YtnbppbnjkmopeaaIdPlain
import Derived.Test.YtnbppbnjkmopeaaRefBase
import Derived.Test.YtnbppbnjkmopeaaMem
import Derived.Laws.BitsAllLaws
namespace Go.Proofs.Ytnbppbnjkmopeaa
end Go.Proofs.Ytnbppbnjkmopeaa
