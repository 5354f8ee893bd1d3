/- LinearTurns's walk, and how its arguments are opened. -/
import Derived.Test.YtojgibinokmmeaaTurns
import Derived.Test.YtojgibinokmmeaaArgs
