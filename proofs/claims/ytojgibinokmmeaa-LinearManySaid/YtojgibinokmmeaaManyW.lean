/- LinearMany's walk, and how its arguments are opened. -/
import Derived.Test.YtojgibinokmmeaaMany
import Derived.Test.YtojgibinokmmeaaArgsB
