/- LinearParts's walk, and how its arguments are opened. -/
import Derived.Test.YtojgibinokmmeaaParts
import Derived.Test.YtojgibinokmmeaaArgs
