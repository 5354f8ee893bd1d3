/- LinearSerial's walk, and how its arguments are opened. -/
import Derived.Test.YtojgibinokmmeaaSerial
import Derived.Test.YtojgibinokmmeaaArgsB
