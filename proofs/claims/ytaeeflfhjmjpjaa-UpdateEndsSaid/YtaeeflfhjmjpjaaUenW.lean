/- UpdateEnds's walk, and how its arguments are opened. -/
import Derived.Test.YtaeeflfhjmjpjaaUen
