/- LinearWrites's walk, and how its arguments are opened. -/
import Derived.Test.YtojgibinokmmeaaWrites
import Derived.Test.YtojgibinokmmeaaArgs
