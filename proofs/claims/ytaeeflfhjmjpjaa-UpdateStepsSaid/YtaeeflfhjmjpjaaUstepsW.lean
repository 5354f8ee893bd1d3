/- UpdateSteps's walk, and how its arguments are opened. -/
import Derived.Test.YtaeeflfhjmjpjaaUsteps
