/- LinearNever's walk, and how its arguments are opened. -/
import Derived.Test.YtojgibinokmmeaaNever
import Derived.Test.YtojgibinokmmeaaArgs
