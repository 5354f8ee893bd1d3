/- LinearNames's walk, and how its arguments are opened. -/
import Derived.Test.YtojgibinokmmeaaNames
import Derived.Test.YtojgibinokmmeaaArgs
