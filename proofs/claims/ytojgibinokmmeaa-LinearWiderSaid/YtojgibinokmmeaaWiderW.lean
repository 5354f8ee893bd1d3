/- LinearWider's walk, and how its arguments are opened. -/
import Derived.Test.YtojgibinokmmeaaWider
import Derived.Test.YtojgibinokmmeaaArgsB
